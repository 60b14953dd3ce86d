/- What functions of the program come to, each proved from its code. -/
import Derived.Test.YtmbmfnmjjelmkabGreatLm6
set_option linter.unusedVariables false
set_option linter.unusedSimpArgs false
set_option linter.unnecessarySimpa false
set_option linter.unusedSectionVars false
open Nat (reduceEqDiff reduceAdd reduceSub reduceLeDiff)
open Int (reduceToNat reduceEq reduceLE reduceLT)
open List (reduceReplicate)
set_option maxRecDepth 20000
namespace Lam
open Go
def recZ (w : List Int) (s : Int) : Rc := (recO w s).getD ⟨0, [], [], 0⟩
def lowZ (w : List Int) (b : Int) : aY := ((cR w b).bind (lowO w)).getD []
def uT (w : List Int) (b : Int) : Nd := (cR w b).getD ⟨0, 0, 0, 0, []⟩
def ownB (w : List Int) (n : Nd) (x : Rc) : Bool := decide (n.next = 0) || ltB x.key (lowZ w n.next)
def ownL (w : List Int) (n : Nd) : List Rc := ((plain n.slots).map (recZ w)).takeWhile (ownB w n)
def yE (x : Rc) : sL := ⟨x.key, x.val⟩
def ownP (w : List Int) (b : Int) : List sL := (ownL w (uT w b)).map yE
def allP (w : List Int) (l : List Int) : List sL := l.flatMap (ownP w)
end Lam
namespace Lam
open Go
theorem aHM {w w' : List Int} {b : Int} (hl : w'.length = w.length) (hb : 0 ≤ b → eQ w' b.toNat = eQ w b.toNat) : cR w' b = cR w b := by
  unfold cR
  rw [hl]
  by_cases h : (decide (b < 0) || decide (((w.length / 16 : Nat) : Int) ≤ b)) = true
  · rw [if_pos h, if_pos h]
  · rw [if_neg h, if_neg h]
    simp only [Bool.or_eq_true, decide_eq_true_eq, not_or] at h
    rw [hb (by omega)]
theorem aJE {w w' : List Int} {b : Int} (hl : w'.length = w.length) (hb : 0 ≤ b → eQ w' b.toNat = eQ w b.toNat) : recO w' b = recO w b := by
  unfold recO
  rw [hl]
  by_cases h : (decide (b < 0) || decide (((w.length / 16 : Nat) : Int) ≤ b)) = true
  · rw [if_pos h, if_pos h]
  · rw [if_neg h, if_neg h]
    simp only [Bool.or_eq_true, decide_eq_true_eq, not_or] at h
    rw [hb (by omega)]
theorem aET {w : List Int} : ∀ (m : Nat) (b : Int) (out l : List Int), nB w m b out = some l → (∀ x ∈ out, x ≠ 0) → ∀ x ∈ l, x ≠ 0
  | 0, _, _, _, h, _ => by cases h
  | m + 1, b, out, l, h, ho => by
    simp only [nB] at h
    split at h
    · cases h; exact ho
    · rename_i h0
      split at h
      · cases h
      · split at h
        · refine aET m _ _ _ h fun x hx => ?_
          simp only [List.mem_append, List.mem_singleton] at hx
          rcases hx with hx | rfl
          · exact ho x hx
          · exact h0
        · cases h
theorem aLf {hb : Bool} {w l : List Int} (h : kD hb w = some l) : ∀ x ∈ l, x ≠ 0 := by
  unfold kD at h
  split at h
  · exact aET _ _ _ _ h (by simp)
  · cases h
theorem aAO {w w' : List Int} {low : aY} : ∀ {l : List Int} {k : Nat} {last : aY}, (∀ s ∈ l, recO w' s = recO w s) → kE w' low l k last = kE w low l k last
  | [], _, _, _ => rfl
  | s :: r, k, last, h => by
    simp only [kE]
    rw [h s (by simp)]
    cases recO w s with
    | none => rfl
    | some x => simp only [aAO (l := r) fun s hs => h s (by simp [hs])]
theorem aBI {w : List Int} {low : aY} : ∀ {l : List Int} {k : Nat} {last : aY}, kE w low l k last = true → ∀ s ∈ l, ∃ x, recO w s = some x ∧ x.kind = 1
  | [], _, _, _, s, hs => by cases hs
  | a :: r, k, last, h, s, hs => by
    simp only [kE] at h
    cases hx : recO w a with
    | none => rw [hx] at h; cases h
    | some x =>
      rw [hx] at h
      simp only [Bool.and_eq_true, decide_eq_true_eq] at h
      rcases List.mem_cons.1 hs with rfl | hs
      · exact ⟨x, hx, h.1.1.1⟩
      · exact aBI h.2 s hs
theorem aJF {w : List Int} {i : Nat} {last low : aY} {b : Int} (h : lH w i last b = some low) : ∃ n, cR w b = some n ∧ lowO w n = some low ∧ kE w low (plain n.slots) 0 low = true := by
  unfold lH at h
  cases hn : cR w b with
  | none => rw [hn] at h; cases h
  | some n =>
    rw [hn] at h
    simp only at h
    cases hw : lowO w n with
    | none => rw [hw] at h; cases h
    | some lo =>
      rw [hw] at h
      simp only at h
      split at h
      rotate_left
      · cases h
      rename_i hc
      cases h
      simp only [Bool.and_eq_true] at hc
      exact ⟨n, rfl, hw, hc.2⟩
theorem aHN {w w' : List Int} {b : Nat} (hl : w'.length = w.length) (h : ∀ k, k / 16 = b → w'.getD k 0 = w.getD k 0) : eQ w' b = eQ w b := by
  have e1 : (eQ w' b).length = (eQ w b).length := by unfold eQ; simp [hl]
  refine List.ext_getElem? fun i => ?_
  rcases Nat.lt_or_ge i (eQ w b).length with hi | hi
  · have hi16 : i < 16 := by unfold eQ at hi; simp at hi; omega
    have hil : 16 * b + i < w.length := by unfold eQ at hi; simp at hi; omega
    have := h (16 * b + i) (by omega)
    unfold eQ
    rw [List.getElem?_take, List.getElem?_take, if_pos hi16, if_pos hi16, List.getElem?_drop, List.getElem?_drop]
    rw [List.getD_eq_getElem?_getD, List.getD_eq_getElem?_getD, List.getElem?_eq_getElem hil, List.getElem?_eq_getElem (by omega)] at this
    rw [List.getElem?_eq_getElem hil, List.getElem?_eq_getElem (by omega)]
    simpa using this
  · rw [List.getElem?_eq_none (by omega), List.getElem?_eq_none hi]
end Lam
namespace Lam
open Go
theorem vY {w : List Int} {b : Int} {n : Nd} (h : cR w b = some n) (hb : b < 256) : aDX w b n.slots := by
  obtain ⟨hok, h0, h1, hr⟩ := kV h
  have hw := (uN hr).2
  have h13 := hok.2.2.2.2.2.2.1
  refine ⟨⟨h0, hb, h1⟩, h13, fun x hx => by have := hok.2.2.2.2.2.2.2 x hx; omega, fun k hk => ?_⟩
  have e1 : mS w b k = (eQ w b.toNat).getD (k + 1 + 1 + 1) 0 := by
    unfold mS eQ
    rw [tH, if_pos (by omega), tI]
    congr 1; omega
  rw [e1, ← hw]
  unfold fM
  rw [List.getD_cons_succ, List.getD_cons_succ, List.getD_cons_succ]
  rcases Nat.lt_or_ge k n.slots.length with h1 | h1
  · rw [List.getD_eq_getElem?_getD, List.getElem?_append_left h1, ← List.getD_eq_getElem?_getD]
  · rw [List.getD_eq_getElem?_getD, List.getElem?_append_right h1, List.getD_eq_getElem?_getD, List.getElem?_eq_none h1, List.getElem?_replicate]
    split <;> rfl
def aGN (w : List Int) (s : Sk) : Nat → Sk
  | 0 => s
  | k + 1 => kX w (aGN w s k)
def kZ (b : Int) (n : Nd) (k : Nat) : Sk := if mB n.turn = true then yD b n.turn n.slots k else upAt b n.turn n.slots k
theorem pZ {w : List Int} {b : Int} {n : Nd} (h : cR w b = some n) (hb : b < 256) : ∀ k, aGN w (kZ b n 0) k = kZ b n k
  | 0 => rfl
  | k + 1 => by
    unfold aGN
    rw [pZ h hb k]
    unfold kZ
    cases hd : mB n.turn with
    | true => exact aLe (vY h hb) hd k
    | false => exact aNr (vY h hb) hd k
theorem aLg {b : Int} {n : Nd} (h13 : n.slots.length ≤ 13) : ∃ a R, kZ b n 13 = ⟨b, n.turn, a, R, true⟩ ∧ (R = plain n.slots ∨ R = (plain n.slots).reverse) := by
  unfold kZ
  by_cases hd : mB n.turn = true
  · rw [if_pos hd]
    exact ⟨_, _, rfl, .inr (aES _)⟩
  · rw [if_neg hd]
    unfold upAt
    rw [if_neg (by omega)]
    exact ⟨_, _, rfl, .inl rfl⟩
def recT (w : List Int) (s : Int) : RecT := rcT ((recO w s).getD kC)
theorem zE {w : List Int} {low : aY} : ∀ {l : List Int} {k : Nat} {last : aY}, kE w low l k last = true → (l.map (recT w)).Pairwise ltR ∧ (k ≠ 0 → ∀ s ∈ l, ltB last (recT w s).key = true)
  | [], _, _, _ => ⟨List.Pairwise.nil, fun _ s hs => by cases hs⟩
  | a :: r, k, last, h => by
    simp only [kE] at h
    cases hx : recO w a with
    | none => rw [hx] at h; cases h
    | some x =>
      rw [hx] at h
      simp only [Bool.and_eq_true, Bool.or_eq_true, decide_eq_true_eq] at h
      obtain ⟨⟨_, hk⟩, hr⟩ := h
      have ex : recT w a = rcT x := by unfold recT; rw [hx]; rfl
      obtain ⟨h1, h2⟩ := zE hr
      have h2 := h2 (by omega)
      have hstep : ∀ s ∈ r, ltB x.key (recT w s).key = true ∧ (ltB last x.key = true → ltB last (recT w s).key = true) := by
        intro s hs
        have := h2 s hs
        by_cases hl : ltB last x.key = true
        · rw [if_pos hl] at this
          exact ⟨this, fun h => lR h this⟩
        · rw [if_neg hl] at this
          have hle : leB x.key last := by unfold leB; simpa using hl
          refine ⟨?_, fun h => absurd h hl⟩
          rcases aBj x.key last with e | e | e
          · exact lR e this
          · rw [e]; exact this
          · exact absurd e hl
      refine ⟨?_, fun hk0 s hs => ?_⟩
      · rw [List.map_cons, List.pairwise_cons]
        refine ⟨fun y hy => ?_, h1⟩
        obtain ⟨s, hs, rfl⟩ := List.mem_map.1 hy
        unfold ltR
        rw [ex]
        exact (hstep s hs).1
      · have hlt : ltB last x.key = true := by rcases hk with h | h; exact absurd h hk0; exact h
        rcases List.mem_cons.1 hs with rfl | hs
        · rw [ex]; exact hlt
        · exact (hstep s hs).2 hlt
theorem aGO {w : List Int} : ∀ {l : List Int} {out : List RecT}, (∀ s ∈ l, ∃ x, recO w s = some x) → ((out ++ l.map (recT w)).map (·.key)).Nodup → l.foldl (hitS w) out = out ++ l.map (recT w)
  | [], out, _, _ => by simp
  | a :: r, out, h, hn => by
    obtain ⟨x, hx⟩ := h a (by simp)
    have ex : recT w a = rcT x := by unfold recT; rw [hx]; rfl
    have hni : x.key ∉ out.map (·.key) := by
      intro hm
      rw [List.map_append, List.nodup_append] at hn
      refine hn.2.2 _ hm x.key ?_ rfl
      rw [List.map_map, List.map_cons, List.mem_cons]
      left
      show x.key = (recT w a).key
      rw [ex]; rfl
    have hs : hitS w out a = out ++ [recT w a] := by
      unfold hitS
      rw [hx]
      simp only [hni, if_false, ex]
    rw [List.foldl_cons, hs, aGO (fun s hs => h s (by simp [hs])) (by simpa using hn)]
    simp
theorem aHO {l : List RecT} (h : l.Pairwise ltR) : (l.map (·.key)).Nodup := by
  unfold List.Nodup
  rw [List.pairwise_map]
  exact h.imp fun {a b} hab e => by unfold ltR at hab; rw [e, vU] at hab; cases hab
theorem aLh {w R L : List Int} (hrec : ∀ s ∈ L, ∃ x, recO w s = some x) (hr : (L.map (recT w)).Pairwise ltR) (hR : R = L ∨ R = L.reverse) : uS (iY w R) = L.map (recT w) := by
  have hp : (R.map (recT w)).Perm (L.map (recT w)) := by
    rcases hR with rfl | rfl
    · exact .refl _
    · exact (List.reverse_perm L).map _
  have hn : ((R.map (recT w)).map (·.key)).Nodup := (hp.map _).nodup_iff.2 (aHO hr)
  have e : iY w R = R.map (recT w) := by
    unfold iY
    rw [aGO (fun s hs => hrec s (by rcases hR with rfl | rfl; exact hs; exact List.mem_reverse.1 hs)) (by simpa using hn)]
    simp
  rw [e]
  exact aCm (xB hn) hr ((rS _).trans hp)
theorem aJG {w : List Int} (h : rR w = 0) : ∃ l, iI (eC w) w = some l ∧ kD (eC w) w = some l ∧ jN w l 0 [] = true := by
  unfold rR at h
  cases hl : iI (eC w) w with
  | none => rw [hl] at h; cases h
  | some l =>
    unfold iI at hl
    split at hl
    · cases hl
    · rename_i l' hl'
      split at hl
      · rename_i hb; cases hl; exact ⟨l, rfl, hl', hb⟩
      · cases hl
theorem aBJ {w l : List Int} {i : Nat} {last : aY} (hi : i < l.length) (h : jN w (l.drop i) i last = true) : ∃ low, lH w i last (l.getD i 0) = some low ∧ jN w (l.drop (i + 1)) (i + 1) low = true := by
  rw [wK l i 0 hi] at h
  simp only [jN] at h
  split at h
  · cases h
  · rename_i low hl; exact ⟨low, hl, h⟩
theorem wP {w : List Int} {i : Nat} {last : aY} {b : Int} {low : aY} (h : lH w i last b = some low) : (cR w b).bind (lowO w) = some low ∧ ((i = 0 ∧ low = []) ∨ (0 < i ∧ ltB last low = true)) := by
  unfold lH at h
  cases hn : cR w b with
  | none => rw [hn] at h; cases h
  | some n =>
    rw [hn] at h
    simp only at h
    cases hw : lowO w n with
    | none => rw [hw] at h; cases h
    | some lo =>
      rw [hw] at h
      simp only at h
      split at h
      rotate_left
      · cases h
      rename_i hc
      cases h
      refine ⟨hw, ?_⟩
      simp only [Bool.and_eq_true, Bool.or_eq_true, decide_eq_true_eq] at hc
      rcases hc.1 with ⟨h1, h2⟩ | ⟨h1, h2⟩
      · left
        unfold lowO at hw
        rw [if_pos h2] at hw
        cases hw
        exact ⟨h1, rfl⟩
      · exact .inr ⟨h1, h2⟩
theorem aNs (a : aY) : ltB a [] = false := by cases a <;> rfl
theorem pI {w l : List Int} (hl : iI (eC w) w = some l) : kD (eC w) w = some l ∧ jN w l 0 [] = true ∧ eC w = true := by
  unfold iI at hl
  split at hl
  · cases hl
  · rename_i l' hl'
    split at hl
    · rename_i hb; cases hl; exact ⟨hl', hb, (kW hl').1⟩
    · cases hl
def aFB (w : List Int) : Int → List Int → Prop
  | b, [] => b = 0
  | b, x :: r => b ≠ 0 ∧ x = b ∧ ∃ n, cR w b = some n ∧ n.level = 0 ∧ aFB w n.next r
theorem aBK {w : List Int} : ∀ (m : Nat) (b : Int) (out l : List Int), nB w m b out = some l → ∃ r, l = out ++ r ∧ aFB w b r
  | 0, b, out, l, h => by cases h
  | m + 1, b, out, l, h => by
    simp only [nB] at h
    split at h
    · rename_i h0; cases h; exact ⟨[], by simp, h0⟩
    · rename_i h0
      cases hn : cR w b with
      | none => rw [hn] at h; cases h
      | some n =>
        rw [hn] at h
        simp only at h
        split at h
        · rename_i hc
          obtain ⟨r, hr, hl⟩ := aBK m n.next (out ++ [b]) l h
          exact ⟨b :: r, by rw [hr]; simp, h0, rfl, n, hn, hc.1, hl⟩
        · cases h
theorem aGP {w : List Int} : ∀ {b : Int} {l : List Int}, aFB w b l → ∀ {i : Nat}, i < l.length → l.getD i 0 ≠ 0 ∧ ∃ n, cR w (l.getD i 0) = some n ∧ n.level = 0 ∧ n.next = if i + 1 < l.length then l.getD (i + 1) 0 else 0
  | b, [], _, i, hi => absurd hi (Nat.not_lt_zero _)
  | b, x :: r, h, 0, hi => by
    obtain ⟨h0, rfl, n, hn, hl, hk⟩ := h
    refine ⟨h0, n, hn, hl, ?_⟩
    cases r with
    | nil => exact hk
    | cons y r' => exact hk.2.1.symm
  | b, x :: r, h, i + 1, hi => by
    obtain ⟨h0, rfl, n, hn, hl, hk⟩ := h
    obtain ⟨q0, n', q1, q2, q3⟩ := aGP hk (i := i) (by simpa using hi)
    refine ⟨q0, n', q1, q2, ?_⟩
    rw [q3]
    by_cases hc : i + 1 < r.length
    · rw [if_pos hc, if_pos (by simp; omega)]; rfl
    · rw [if_neg hc, if_neg (by simp; omega)]
theorem aIs {w : List Int} {b : Int} {low : aY} (h : (cR w b).bind (lowO w) = some low) : lowZ w b = low := by unfold lowZ; rw [h]; rfl
theorem aIt {w l : List Int} (h : jN w l 0 [] = true) : ∀ i, i < l.length → ∃ last low, lH w i last (l.getD i 0) = some low ∧ jN w (l.drop (i + 1)) (i + 1) low = true ∧ (i = 0 → low = []) ∧ ∀ j, j < i → ltB (lowZ w (l.getD j 0)) low = true
  | 0, hi => by
    obtain ⟨low, h1, h2⟩ := aBJ (last := []) hi (by rw [List.drop_zero]; exact h)
    refine ⟨[], low, h1, h2, fun _ => ?_, fun j hj => by omega⟩
    rcases (wP h1).2 with h | h
    · exact h.2
    · omega
  | i + 1, hi => by
    obtain ⟨last, low, h1, h2, h3, h4⟩ := aIt h i (by omega)
    obtain ⟨low', q1, q2⟩ := aBJ hi h2
    have hlt : ltB low low' = true := by
      rcases (wP q1).2 with h | h
      · omega
      · exact h.2
    refine ⟨low, low', q1, q2, fun h => by omega, fun j hj => ?_⟩
    by_cases e : j = i
    · rw [e, aIs (wP h1).1]; exact hlt
    · exact lR (h4 j (by omega)) hlt
theorem qN {w l : List Int} (h : iI (eC w) w = some l) {i : Nat} (hi : i < l.length) :
    l.getD i 0 ≠ 0 ∧ ∃ n, cR w (l.getD i 0) = some n ∧ n.level = 0 ∧ n.next = (if i + 1 < l.length then l.getD (i + 1) 0 else 0) ∧ lowO w n = some (lowZ w (l.getD i 0)) ∧ kE w (lowZ w (l.getD i 0)) (plain n.slots) 0 (lowZ w (l.getD i 0)) = true ∧
      (i = 0 → lowZ w (l.getD i 0) = []) ∧ ∀ j, j < i → ltB (lowZ w (l.getD j 0)) (lowZ w (l.getD i 0)) = true := by
  obtain ⟨h1, h2, hrd⟩ := pI h
  have hlk : aFB w 1 l := by
    unfold kD at h1
    rw [if_pos hrd] at h1
    obtain ⟨r, hr, hl⟩ := aBK _ _ _ _ h1
    rw [List.nil_append] at hr
    rw [hr]; exact hl
  obtain ⟨q0, n, q1, q2, q3⟩ := aGP hlk hi
  obtain ⟨last, low, g1, _, g3, g4⟩ := aIt h2 i hi
  have hlow := aIs (wP g1).1
  obtain ⟨n', r1, r2, r3⟩ := aJF g1
  rw [q1] at r1
  cases r1
  rw [hlow]
  exact ⟨q0, n, q1, q2, q3, r2, r3, g3, g4⟩
end Lam
namespace Lam
open Go Go.Proofs
end Lam
namespace Lam
open Go Go.Proofs
theorem aNt (w : List Int) (b : Int) : ∃ e, lowV w b = .tup [.str (lowZ w b), .int .i64 e] := by
  unfold lowV lowZ
  cases h : (cR w b).bind (lowO w) with
  | none => exact ⟨_, rfl⟩
  | some l => exact ⟨_, rfl⟩
def getP (l : List sL) (key : aY) : Option sL := l.find? fun x => decide (x.key = key)
end Lam
namespace Lam
open Go
def iB (w : List Int) (r : Rd) : Rd :=
  if r.phase = 1 then qG w r else if r.phase = 2 then rT w r else if r.phase = 3 then pY w r else if r.phase = 4 then mQ w r
  else if r.phase = 5 then { r with block := r.to_, phase := 2 } else if r.phase = 6 then { r with phase := 7 } else if r.phase = 7 then { r with phase := 8 } else r
theorem aHP (w : List Int) (r : Rd) : nP ⟨w, w, []⟩ r = (⟨w, w, []⟩, iB w r) := by
  unfold nP iB
  simp only [aAN]
  split
  · rfl
  split
  · rfl
  split
  · rfl
  split
  · rfl
  split
  · rfl
  split
  · rfl
  split
  · rfl
  · rfl
def seqR (w : List Int) (r : Rd) : Nat → Rd
  | 0 => r
  | k + 1 => iB w (seqR w r k)
theorem sK (w : List Int) (r : Rd) (a : Nat) : ∀ b, seqR w r (a + b) = seqR w (seqR w r a) b
  | 0 => rfl
  | b + 1 => by show iB w (seqR w r (a + b)) = _; rw [sK w r a b]; rfl
theorem aJH {w : List Int} {r : Rd} (h : r.phase = 8) : iB w r = r := by
  unfold iB
  rw [if_neg (by omega), if_neg (by omega), if_neg (by omega), if_neg (by omega), if_neg (by omega), if_neg (by omega), if_neg (by omega)]
theorem aEU {w : List Int} {r : Rd} (h : r.phase = 8) : ∀ k, seqR w r k = r
  | 0 => rfl
  | k + 1 => by show iB w (seqR w r k) = r; rw [aEU h k]; exact aJH h
theorem aDz {w : List Int} {r : Rd} {a b : Nat} (h : (seqR w r a).phase = 8) (hab : a ≤ b) : seqR w r b = seqR w r a := by
  rw [show b = a + (b - a) by omega, sK]; exact aEU h _
theorem aMN {w : List Int} {r : Rd} (h : r.phase = 1) : iB w r = qG w r := by unfold iB; rw [if_pos h]
theorem aSB {w : List Int} {r : Rd} (h : r.phase = 2) : iB w r = rT w r := by unfold iB; rw [if_neg (by omega), if_pos h]
theorem aMO {w : List Int} {r : Rd} (h : r.phase = 3) : iB w r = pY w r := by unfold iB; rw [if_neg (by omega), if_neg (by omega), if_pos h]
theorem aSC {w : List Int} {r : Rd} (h : r.phase = 4) : iB w r = mQ w r := by unfold iB; rw [if_neg (by omega), if_neg (by omega), if_neg (by omega), if_pos h]
theorem aSD {w : List Int} {r : Rd} (h : r.phase = 5) : iB w r = { r with block := r.to_, phase := 2 } := by unfold iB; rw [if_neg (by omega), if_neg (by omega), if_neg (by omega), if_neg (by omega), if_pos h]
theorem aSE {w : List Int} {r : Rd} (h : r.phase = 6) : iB w r = { r with phase := 7 } := by unfold iB; rw [if_neg (by omega), if_neg (by omega), if_neg (by omega), if_neg (by omega), if_neg (by omega), if_pos h]
theorem aSF {w : List Int} {r : Rd} (h : r.phase = 7) : iB w r = { r with phase := 8 } := by unfold iB; rw [if_neg (by omega), if_neg (by omega), if_neg (by omega), if_neg (by omega), if_neg (by omega), if_neg (by omega), if_pos h]
/-! ### A look through a leaf -/
theorem aGQ {w : List Int} {b : Int} {n : Nd} (h : cR w b = some n) (hb : b < 256) : pX w b = some (kZ b n 0) := by
  obtain ⟨_, h13, _⟩ := vY h hb
  unfold pX
  rw [h]
  simp only
  rw [if_neg (by omega)]
  unfold kZ
  by_cases hd : mB n.turn = true
  · simp only [hd, if_true]
    unfold yD
    rw [if_pos (by decide), List.drop_of_length_le (by omega)]
    rfl
  · rw [show (if mB n.turn = true then (12 : Int) else 0) = 0 from if_neg hd, if_neg hd]
    unfold upAt
    rw [if_pos (by omega)]
    rfl
theorem aJI {b : Int} {n : Nd} (h13 : n.slots.length ≤ 13) : ∃ T, 1 ≤ T ∧ T ≤ 13 ∧ kZ b n T = kZ b n 13 ∧ ∀ k, k < T → (kZ b n k).over = false := by
  unfold kZ
  by_cases hd : mB n.turn = true
  · refine ⟨13, by decide, by decide, rfl, fun k hk => ?_⟩
    rw [if_pos hd]; unfold yD; rw [if_pos (by omega)]
  · refine ⟨min n.slots.length 12 + 1, by omega, by omega, ?_, fun k hk => ?_⟩
    · rw [if_neg hd, if_neg hd]; unfold upAt; rw [if_neg (by omega), if_neg (by omega)]
    · rw [if_neg hd]; unfold upAt; rw [if_pos (by omega)]
theorem aDA {w : List Int} {b : Int} {n : Nd} (h : cR w b = some n) (hb : b < 256) (r : Rd) (hp : r.phase = 3) (hs : r.seek = kZ b n 0) {T : Nat} (hT : ∀ k, k < T → (kZ b n k).over = false) : ∀ k, k < T → seqR w r k = { r with seek := kZ b n k }
  | 0, _ => by show r = _; rw [← hs]
  | k + 1, hk => by
    show iB w (seqR w r k) = _
    have ih := aDA h hb r hp hs hT k (by omega)
    rw [ih, aMO (r := { r with seek := kZ b n k }) hp]
    unfold pY
    simp only
    have e : kX w (kZ b n k) = kZ b n (k + 1) := by
      rw [← pZ h hb k, ← pZ h hb (k + 1)]; rfl
    rw [e, hT (k + 1) hk]
    simp
theorem aLi {w : List Int} {b : Int} {n : Nd} (h : cR w b = some n) (hb : b < 256) (r : Rd) (hp : r.phase = 2) (hblk : r.block = b) : ∃ T, T ≤ 14 ∧ ∃ a R, (R = plain n.slots ∨ R = (plain n.slots).reverse) ∧ seqR w r T = { r with seek := ⟨b, n.turn, a, R, true⟩, phase := 4 } := by
  have h13 := (kV h).1.2.2.2.2.2.2.1
  obtain ⟨T, t1, t2, t3, t4⟩ := aJI (b := b) h13
  obtain ⟨a, R, h1, h2⟩ := aLg (b := b) h13
  refine ⟨1 + T, by omega, a, R, h2, ?_⟩
  rw [sK]
  have e1 : seqR w r 1 = { r with seek := kZ b n 0, phase := 3 } := by
    show iB w r = _
    rw [aSB hp]
    unfold rT
    rw [hblk, aGQ h hb]
  rw [e1]
  have hk := aDA h hb { r with seek := kZ b n 0, phase := 3 } rfl rfl t4 (T - 1) (by omega)
  rw [show T = (T - 1) + 1 by omega]
  show iB w (seqR w _ (T - 1)) = _
  rw [hk, aMO rfl]
  unfold pY
  have e : kX w (kZ b n (T - 1)) = kZ b n T := by
    rw [← pZ h hb (T - 1), ← pZ h hb T, show T = (T - 1) + 1 by omega]; rfl
  simp only [e, t3, h1, if_true]
end Lam
namespace Lam
open Go
def aAP (w : List Int) (b : Int) : List RecT := (plain (uT w b).slots).map (recT w)
def mC (w l : List Int) (i : Nat) : aY := lowZ w (l.getD i 0)
def nC (w : List Int) (b : Int) (key : aY) : Bool × aY := match idxR key (aAP w b) with
  | none => (false, [])
  | some x => (true, x.val)
theorem aNu {w l : List Int} (h : iI (eC w) w = some l) (hN : w.length / 16 ≤ 256) {i : Nat} (hi : i < l.length) (r : Rd) (hp : r.phase = 2) (hblk : r.block = l.getD i 0) :
    ∃ n, n ≤ 17 ∧ (seqR w r n).key = r.key ∧ ((i + 1 < l.length ∧ ltB r.key (mC w l (i + 1)) = false ∧ (seqR w r n).phase = 2 ∧ (seqR w r n).block = l.getD (i + 1) 0) ∨
      ((i + 1 < l.length → ltB r.key (mC w l (i + 1)) = true) ∧ (seqR w r n).phase = 8 ∧ ((seqR w r n).found, (seqR w r n).val) = nC w (l.getD i 0) r.key)) := by
  obtain ⟨hz, n, hn, hlev, hnx, hlow, hsl, _, _⟩ := qN h hi
  have hb : l.getD i 0 < 256 := by have := (kV hn).2.2.1; omega
  obtain ⟨T, hT, a, R, hR, hs⟩ := aLi hn hb r hp hblk
  have hnz : uT w (l.getD i 0) = n := by unfold uT; rw [hn]; rfl
  obtain ⟨hr4, hr4e⟩ : ∃ r4, r4 = seqR w r T := ⟨_, rfl⟩
  have hfe : iB w (seqR w r T) = mQ w (seqR w r T) := aSC (by rw [hs])
  have hholds : tQ w (l.getD i 0) n.turn = true := by unfold tQ; rw [hn]; exact decide_eq_true rfl
  have hits : uS (iY w R) = aAP w (l.getD i 0) := by
    unfold aAP
    rw [hnz]
    refine aLh (fun s hs => ?_) (zE hsl).1 hR
    obtain ⟨x, hx, _⟩ := aBI hsl s hs
    exact ⟨x, hx⟩
  have hright : vW w (l.getD i 0) = if i + 1 < l.length then some (l.getD (i + 1) 0, mC w l (i + 1)) else none := by
    unfold vW
    rw [hn]
    simp only
    by_cases hc : i + 1 < l.length
    · rw [if_pos hc] at hnx ⊢
      obtain ⟨hz2, n2, hn2, _, _, hlow2, _⟩ := qN h hc
      rw [hnx, if_neg hz2, hn2]
      simp only [Option.bind_some, hlow2]
      rfl
    · rw [if_neg hc] at hnx ⊢
      rw [hnx, if_pos rfl]
  by_cases hmv : i + 1 < l.length ∧ ltB r.key (mC w l (i + 1)) = false
  · refine ⟨T + 1 + 1, by omega, ?_⟩
    have e1 : seqR w r (T + 1) = { r with seek := ⟨l.getD i 0, n.turn, a, R, true⟩, phase := 5, to_ := l.getD (i + 1) 0 } := by
      show iB w (seqR w r T) = _
      rw [hfe, hs]
      unfold mQ
      simp only [hholds, hblk, hright, if_pos hmv.1, hmv.2]
      rfl
    have e2 : seqR w r (T + 1 + 1) = { r with seek := ⟨l.getD i 0, n.turn, a, R, true⟩, phase := 2, to_ := l.getD (i + 1) 0, block := l.getD (i + 1) 0 } := by
      show iB w (seqR w r (T + 1)) = _
      rw [e1, aSD rfl]
    rw [e2]
    exact ⟨rfl, .inl ⟨hmv.1, hmv.2, rfl, rfl⟩⟩
  · refine ⟨T + 1 + 1 + 1, by omega, ?_⟩
    have hst : i + 1 < l.length → ltB r.key (mC w l (i + 1)) = true := fun h1 => by
      cases e : ltB r.key (mC w l (i + 1)) with
      | true => rfl
      | false => exact absurd ⟨h1, e⟩ hmv
    have e1 : seqR w r (T + 1) = rU w { r with seek := ⟨l.getD i 0, n.turn, a, R, true⟩, phase := 4 } := by
      show iB w (seqR w r T) = _
      rw [hfe, hs]
      unfold mQ
      simp only [hholds, hblk, hright]
      by_cases hc : i + 1 < l.length
      · rw [if_pos hc]; simp only [hst hc]; rfl
      · rw [if_neg hc]; rfl
    have e2 : (rU w { r with seek := ⟨l.getD i 0, n.turn, a, R, true⟩, phase := 4 }) = { r with seek := ⟨l.getD i 0, n.turn, a, R, true⟩, phase := 6, found := (nC w (l.getD i 0) r.key).1, val := (nC w (l.getD i 0) r.key).2 } := by
      unfold rU nC
      simp only [hits]
      cases idxR r.key (aAP w (l.getD i 0)) with
      | none => rfl
      | some x => rfl
    have e3 : seqR w r (T + 1 + 1) = { r with seek := ⟨l.getD i 0, n.turn, a, R, true⟩, phase := 7, found := (nC w (l.getD i 0) r.key).1, val := (nC w (l.getD i 0) r.key).2 } := by
      show iB w (seqR w r (T + 1)) = _
      rw [e1, e2, aSE rfl]
    have e4 : seqR w r (T + 1 + 1 + 1) = { r with seek := ⟨l.getD i 0, n.turn, a, R, true⟩, phase := 8, found := (nC w (l.getD i 0) r.key).1, val := (nC w (l.getD i 0) r.key).2 } := by
      show iB w (seqR w r (T + 1 + 1)) = _
      rw [e3, aSF rfl]
    rw [e4]
    exact ⟨rfl, .inr ⟨hst, rfl, rfl⟩⟩
theorem aGR {w l : List Int} (h : iI (eC w) w = some l) (hN : w.length / 16 ≤ 256) : ∀ (d i : Nat), i + d + 1 = l.length → ∀ (r : Rd), r.phase = 2 → r.block = l.getD i 0 → ltB r.key (mC w l i) = false →
    ∃ n, n ≤ 17 * (d + 1) ∧ (seqR w r n).phase = 8 ∧ ∃ j, i ≤ j ∧ j < l.length ∧ ltB r.key (mC w l j) = false ∧ (j + 1 < l.length → ltB r.key (mC w l (j + 1)) = true) ∧ ((seqR w r n).found, (seqR w r n).val) = nC w (l.getD j 0) r.key
  | d, i, hd, r, hp, hb, hlo => by
    have hi : i < l.length := by omega
    obtain ⟨n, hn, hk, h1 | h1⟩ := aNu h hN hi r hp hb
    · obtain ⟨q1, q2, q3, q4⟩ := h1
      cases d with
      | zero => omega
      | succ d =>
        obtain ⟨n2, g1, g2, j, g3, g4, g5, g6, g7⟩ := aGR h hN d (i + 1) (by omega) (seqR w r n) q3 q4 (by rw [hk]; exact q2)
        rw [hk] at g5 g6 g7
        rw [← sK] at g2 g7
        exact ⟨n + n2, by omega, g2, j, by omega, g4, g5, g6, g7⟩
    · exact ⟨n, by omega, h1.2.1, i, Nat.le_refl _, hi, hlo, h1.1, h1.2.2⟩
/-! ### The way down -/
def lA (w l : List Int) (key : aY) : Nat → Int → Bool
  | 0, _ => false
  | k + 1, b => match cR w b with
    | none => true
    | some n => if n.level = 0 then decide (b ∈ l) && (match lowO w n with
        | none => false
        | some low => !ltB key low) else match kN w b key 0 with
      | none => true
      | some t => lA w l key k t
def aBn (w l : List Int) (key : aY) : List Int → Int → Int → Prop
  | [], b, c => (cR w b = none ∧ c = 1) ∨ ∃ n, cR w b = some n ∧ ((n.level = 0 ∧ b ∈ l ∧ ltB key (lowZ w b) = false ∧ c = b) ∨ (n.level ≠ 0 ∧ kN w b key 0 = none ∧ c = 1))
  | x :: p, b, c => x = b ∧ ∃ n t, cR w b = some n ∧ n.level ≠ 0 ∧ kN w b key 0 = some t ∧ aBn w l key p t c
theorem aGS {w l : List Int} {key : aY} : ∀ {q : List Int} {b t c : Int} {q' : List Int}, aBn w l key (q ++ b :: q') t c → aBn w l key (b :: q') b c
  | [], b, t, c, q', h => by
    obtain ⟨e, hr⟩ := h
    subst e
    exact ⟨rfl, hr⟩
  | x :: q, b, t, c, q', h => by
    obtain ⟨_, n, t', _, _, _, h⟩ := h
    exact aGS h
theorem aEV {w l : List Int} {key : aY} : ∀ (k : Nat) (b : Int), lA w l key k b = true → ∃ p c, aBn w l key p b c ∧ p.Nodup ∧ ∀ x ∈ p, ∃ n, cR w x = some n
  | 0, b, h => by cases h
  | k + 1, b, h => by
    unfold lA at h
    cases hn : cR w b with
    | none => exact ⟨[], 1, .inl ⟨hn, rfl⟩, List.nodup_nil, fun x hx => by cases hx⟩
    | some n =>
      rw [hn] at h
      simp only at h
      by_cases h0 : n.level = 0
      · rw [if_pos h0] at h
        cases hl : lowO w n with
        | none => rw [hl] at h; simp at h
        | some low =>
          rw [hl] at h
          simp only [Bool.and_eq_true, decide_eq_true_eq, Bool.not_eq_true'] at h
          have hz : lowZ w b = low := by unfold lowZ; rw [hn]; simp only [Option.bind_some, hl]; rfl
          exact ⟨[], b, .inr ⟨n, hn, .inl ⟨h0, h.1, by rw [hz]; exact h.2, rfl⟩⟩, List.nodup_nil, fun x hx => by cases hx⟩
      · rw [if_neg h0] at h
        cases hd : kN w b key 0 with
        | none => exact ⟨[], 1, .inr ⟨n, hn, .inr ⟨h0, hd, rfl⟩⟩, List.nodup_nil, fun x hx => by cases hx⟩
        | some t =>
          rw [hd] at h
          simp only at h
          obtain ⟨p, c, h1, h2, h3⟩ := aEV k t h
          by_cases hm : b ∈ p
          · obtain ⟨q, q', rfl⟩ := List.append_of_mem hm
            refine ⟨b :: q', c, aGS h1, ?_, fun x hx => h3 x (List.mem_append_right _ hx)⟩
            exact (List.nodup_append.1 h2).2.1
          · refine ⟨b :: p, c, ⟨rfl, n, t, hn, h0, hd, h1⟩, List.nodup_cons.2 ⟨hm, h2⟩, fun x hx => ?_⟩
            rcases List.mem_cons.1 hx with rfl | hx
            · exact ⟨n, hn⟩
            · exact h3 x hx
theorem aEW {w l : List Int} : ∀ {p : List Int} {b c : Int} (r : Rd), aBn w l r.key p b c → r.phase = 1 → r.block = b → seqR w r (p.length + 1) = { r with block := c, phase := 2 }
  | [], b, c, r, h, hp, hb => by
    show iB w r = _
    rw [aMN hp]
    unfold qG
    rw [hb]
    rcases h with ⟨h1, rfl⟩ | ⟨n, h1, ⟨h2, _, _, rfl⟩ | ⟨h2, h3, rfl⟩⟩
    · rw [h1]
    · rw [h1]; simp only; rw [if_pos h2]
    · rw [h1]; simp only; rw [if_neg h2, h3]
  | x :: p, b, c, r, h, hp, hb => by
    obtain ⟨rfl, n, t, h1, h2, h3, h4⟩ := h
    have e : seqR w r 1 = { r with block := t } := by
      show iB w r = _
      rw [aMN hp]
      unfold qG
      rw [hb, h1]; simp only; rw [if_neg h2, h3]
    rw [List.length_cons, show p.length + 1 + 1 = 1 + (p.length + 1) by omega, sK, e]
    exact aEW { r with block := t } h4 hp rfl
theorem aGT {w l : List Int} {key : aY} (h : iI (eC w) w = some l) : ∀ {p : List Int} {b c : Int}, aBn w l key p b c → ∃ i, i < l.length ∧ c = l.getD i 0 ∧ ltB key (mC w l i) = false
  | [], b, c, hp => by
    have hone : ∃ i, i < l.length ∧ (1 : Int) = l.getD i 0 ∧ ltB key (mC w l i) = false := by
      obtain ⟨r, hr⟩ := (kW (pI h).1).2.2.2.2.1
      have hl : 0 < l.length := by rw [hr]; simp
      have := (qN h hl)
      obtain ⟨_, n, _, _, _, _, _, h0, _⟩ := this
      refine ⟨0, hl, by rw [hr]; rfl, ?_⟩
      unfold mC
      rw [h0 rfl]; exact aNs key
    rcases hp with ⟨_, rfl⟩ | ⟨n, _, ⟨_, hm, hk, rfl⟩ | ⟨_, _, rfl⟩⟩
    · exact hone
    · obtain ⟨i, hi, e⟩ := List.getElem_of_mem hm
      have e2 : l.getD i 0 = c := by rw [List.getD_eq_getElem?_getD, List.getElem?_eq_getElem hi]; exact e
      exact ⟨i, hi, e2.symm, by unfold mC; rw [e2]; exact hk⟩
    · exact hone
  | x :: p, b, c, hp => by
    obtain ⟨_, n, t, _, _, _, h4⟩ := hp
    exact aGT h h4
end Lam
namespace Lam
open Go
def aAQ : Option sL → Bool × aY
  | none => (false, [])
  | some x => (true, x.val)
theorem aAR {β : Type} {f : Int → Option β} : ∀ (l : List Int) (j : Nat), j < l.length → (∀ k, k < l.length → k ≠ j → f (l.getD k 0) = none) → l.findSome? f = f (l.getD j 0)
  | [], j, h, _ => absurd h (Nat.not_lt_zero _)
  | a :: r, 0, _, h => by
    rw [List.findSome?_cons]
    have hr : r.findSome? f = none := by
      rw [List.findSome?_eq_none_iff]
      intro x hx
      obtain ⟨i, hi, rfl⟩ := List.getElem_of_mem hx
      have := h (i + 1) (by simpa using hi) (by omega)
      rw [List.getD_cons_succ, List.getD_eq_getElem?_getD, List.getElem?_eq_getElem hi] at this
      exact this
    rw [hr]
    show (match f a with | some b => some b | none => none) = f a
    cases f a <;> rfl
  | a :: r, j + 1, hj, h => by
    have h0 : f a = none := h 0 (by simp) (by omega)
    rw [List.findSome?_cons, h0]
    simp only
    rw [aAR r j (by simpa using hj) fun k hk hkj => by
      have := h (k + 1) (by simpa using hk) (by omega)
      rwa [List.getD_cons_succ] at this]
    rfl
theorem aIu {p : Rc → Bool} {key : aY} (hp : ∀ x : Rc, (x.key = key ∨ ltB x.key key = true) → p x = true) : ∀ {L : List Rc}, L.Pairwise (fun a b => ltB a.key b.key = true) → (L.takeWhile p).find? (fun x => decide (x.key = key)) = L.find? (fun x => decide (x.key = key))
  | [], _ => rfl
  | a :: r, h => by
    rw [List.pairwise_cons] at h
    cases hpa : p a with
    | true =>
      rw [List.takeWhile_cons, if_pos hpa, List.find?_cons, List.find?_cons, aIu hp h.2]
    | false =>
      rw [List.takeWhile_cons, if_neg (by rw [hpa]; decide), List.find?_nil]
      symm
      rw [List.find?_eq_none]
      intro x hx
      rw [decide_eq_true_eq]
      intro e
      rcases List.mem_cons.1 hx with rfl | hx
      · rw [hp x (.inl e)] at hpa; cases hpa
      · have := h.1 x hx
        rw [e] at this
        rw [hp a (.inr this)] at hpa; cases hpa
theorem aDB {w : List Int} {low : aY} : ∀ {l : List Int} {k : Nat} {last : aY}, kE w low l k last = true → ∀ s ∈ l, ltB (recZ w s).key low = false
  | [], _, _, _, s, hs => by cases hs
  | a :: r, k, last, h, s, hs => by
    simp only [kE] at h
    cases hx : recO w a with
    | none => rw [hx] at h; cases h
    | some x =>
      rw [hx] at h
      simp only [Bool.and_eq_true, Bool.not_eq_true'] at h
      rcases List.mem_cons.1 hs with rfl | hs
      · have : recZ w s = x := by unfold recZ; rw [hx]; rfl
        rw [this]; exact h.1.1.2
      · exact aDB h.2 s hs
theorem aGU {α : Type} {p : α → Bool} : ∀ {L : List α} {x : α}, x ∈ L.takeWhile p → x ∈ L ∧ p x = true
  | [], x, h => by cases h
  | a :: r, x, h => by
    rw [List.takeWhile_cons] at h
    split at h
    · rename_i hp
      rcases List.mem_cons.1 h with rfl | h
      · exact ⟨by simp, hp⟩
      · have := aGU h; exact ⟨by simp [this.1], this.2⟩
    · cases h
theorem aGV (w : List Int) (key : aY) : ∀ L : List Int, (match idxR key (L.map (recT w)) with | none => (false, []) | some x => (true, x.val)) = aAQ (getP ((L.map (recZ w)).map yE) key)
  | [] => rfl
  | a :: r => by
    have ih := aGV w key r
    unfold idxR getP at ih ⊢
    simp only [List.map_cons, List.find?_cons]
    have e1 : (recT w a).key = (recZ w a).key := rfl
    have e2 : (yE (recZ w a)).key = (recZ w a).key := rfl
    rw [e1, e2]
    by_cases h : (recZ w a).key = key
    · rw [decide_eq_true h]; rfl
    · rw [decide_eq_false h]; exact ih
theorem aAS (p : Rc → Bool) (key : aY) : ∀ L : List Rc, getP (L.map yE) key = (L.find? fun x => decide (x.key = key)).map yE
  | [] => rfl
  | a :: r => by
    have ih := aAS p key r
    unfold getP at ih ⊢
    simp only [List.map_cons, List.find?_cons]
    have e2 : (yE a).key = a.key := rfl
    rw [e2]
    by_cases h : a.key = key
    · rw [decide_eq_true h]; rfl
    · rw [decide_eq_false h]; exact ih
theorem aGW {w l : List Int} (h : iI (eC w) w = some l) {i j : Nat} (hij : i ≤ j) (hj : j < l.length) {key : aY} : (ltB key (mC w l i) = true → ltB key (mC w l j) = true) := by
  intro hk
  by_cases e : i = j
  · rw [← e]; exact hk
  · obtain ⟨_, n, _, _, _, _, _, _, hlt⟩ := qN h hj
    exact lR hk (hlt i (by omega))
theorem aMn {w l : List Int} (h : iI (eC w) w = some l) {j : Nat} (hj : j < l.length) {key : aY} (h1 : ltB key (mC w l j) = false) (h2 : j + 1 < l.length → ltB key (mC w l (j + 1)) = true) : nC w (l.getD j 0) key = aAQ (getP (allP w l) key) := by
  have hall : getP (allP w l) key = l.findSome? fun b => getP (ownP w b) key := by
    unfold getP allP
    rw [List.find?_flatMap]
  have hone : l.findSome? (fun b => getP (ownP w b) key) = getP (ownP w (l.getD j 0)) key := by
    refine aAR (f := fun b => getP (ownP w b) key) l j hj fun k hk hkj => ?_
    obtain ⟨hz, n, hn, hlev, hnx, hlow, hsl, _, _⟩ := qN h hk
    have hnz : uT w (l.getD k 0) = n := by unfold uT; rw [hn]; rfl
    show getP (ownP w (l.getD k 0)) key = none
    unfold getP
    rw [List.find?_eq_none]
    intro x hx
    rw [decide_eq_true_eq]
    intro hxk
    unfold ownP ownL at hx
    rw [hnz] at hx
    obtain ⟨y, hy, rfl⟩ := List.mem_map.1 hx
    obtain ⟨hy1, hy2⟩ := aGU hy
    obtain ⟨s, hs, rfl⟩ := List.mem_map.1 hy1
    have hk2 : (recZ w s).key = key := hxk
    have hge := aDB hsl s hs
    rw [hk2] at hge
    rcases Nat.lt_or_ge k j with hlt | hge2
    · have hk1 : k + 1 < l.length := by omega
      rw [if_pos hk1] at hnx
      obtain ⟨hz2, _⟩ := qN h hk1
      unfold ownB at hy2
      rw [hnx, decide_eq_false hz2, Bool.false_or, hk2] at hy2
      have := aGW h (show k + 1 ≤ j by omega) hj (key := key) hy2
      rw [h1] at this; cases this
    · have := aGW h (show j + 1 ≤ k by omega) hk (key := key) (h2 (by omega))
      have e : mC w l k = lowZ w (l.getD k 0) := rfl
      rw [e, hge] at this; cases this
  obtain ⟨hz, n, hn, hlev, hnx, hlow, hsl, _, _⟩ := qN h hj
  have hnz : uT w (l.getD j 0) = n := by unfold uT; rw [hn]; rfl
  rw [hall, hone]
  unfold nC aAP
  rw [hnz]
  refine Eq.trans (aGV w key (plain n.slots)) ?_
  unfold ownP ownL
  rw [hnz, aAS (fun _ => true), aAS (fun _ => true), aIu]
  · intro x hx
    unfold ownB
    by_cases hc : j + 1 < l.length
    · rw [if_pos hc] at hnx
      have hk := h2 hc
      rw [hnx]
      have : ltB x.key (lowZ w (l.getD (j + 1) 0)) = true := by
        rcases hx with e | e
        · rw [e]; exact hk
        · exact lR e hk
      rw [this, Bool.or_true]
    · rw [if_neg hc] at hnx
      rw [hnx]; rfl
  · have := (zE hsl).1
    rw [List.pairwise_map] at this ⊢
    exact this
def rd0 (w : List Int) (key : aY) : Rd := ⟨key, 1, zD w, 0, skZ, [], false⟩
theorem aSG {w l : List Int} {key : aY} (h : iI (eC w) w = some l) (hN : w.length / 16 ≤ 256) (hl : lA w l key 300 (w.getD 3 0) = true) : ∀ N, 17 * l.length + w.length / 16 + 1 ≤ N → (seqR w (rd0 w key) N).phase = 8 ∧ ((seqR w (rd0 w key) N).found, (seqR w (rd0 w key) N).val) = aAQ (getP (allP w l) key) := by
  obtain ⟨p, c, hp, hnd, hno⟩ := aEV _ _ hl
  have hpl : p.length ≤ w.length / 16 := aGy hnd fun x hx => by
    obtain ⟨n, hn⟩ := hno x hx
    obtain ⟨_, q0, q1, _⟩ := kV hn
    exact ⟨q0, q1⟩
  have hroot : zD w = w.getD 3 0 := by unfold zD; rw [(pI h).2.2]; rfl
  have e1 := aEW (rd0 w key) hp rfl hroot
  obtain ⟨i, hi, hc, hlo⟩ := aGT h hp
  obtain ⟨n, hn, hph, j, hij, hj, hj1, hj2, hfv⟩ := aGR h hN (l.length - i - 1) i (by omega) { rd0 w key with block := c, phase := 2 } rfl hc hlo
  have e2 : seqR w (rd0 w key) (p.length + 1 + n) = seqR w { rd0 w key with block := c, phase := 2 } n := by rw [sK, e1]
  rw [← e2] at hph hfv
  have hf := aMn h hj (key := key) hj1 hj2
  intro N hN2
  have hb : n ≤ 17 * l.length := Nat.le_trans hn (Nat.mul_le_mul_left 17 (by omega))
  have hst := aDz (w := w) (r := rd0 w key) (a := p.length + 1 + n) (b := N) hph (by omega)
  rw [hst]
  exact ⟨hph, by rw [hfv]; exact hf⟩
/-! ### A look holds not more than a leaf's slots -/
def FewS (s : Sk) : Prop := s.refs.length ≤ 13 ∧ (s.over = false → (s.refs.length : Int) ≤ if mB s.turn = true then 12 - s.at_ else s.at_)
theorem aIv : FewS skZ := ⟨by decide, fun _ => by decide⟩
theorem aLj {w : List Int} {b : Int} {s : Sk} (h : pX w b = some s) : FewS s := by
  unfold pX at h
  split at h
  · split at h
    · cases h
    · cases h
      refine ⟨by simp, fun _ => ?_⟩
      simp only [List.length_nil]
      split <;> simp
  · cases h
theorem aMo {w : List Int} {s : Sk} (h : FewS s) : FewS (kX w s) := by
  unfold kX
  split
  · exact h
  · rename_i hc
    have hc : (s.over || decide (mP w s < 0)) = false := by simpa using hc
    rw [Bool.or_eq_false_iff, decide_eq_false_iff_not] at hc
    obtain ⟨ho, hsp⟩ := hc
    obtain ⟨h1, h2⟩ := h
    have h2 := h2 ho
    have hat : 0 ≤ s.at_ ∧ s.at_ < 13 := by
      unfold mP at hsp
      split at hsp
      · unfold oP at hsp
        split at hsp
        · rename_i hb
          simp only [Bool.and_eq_true, decide_eq_true_eq] at hb
          omega
        · omega
      · omega
    have hlen : (goOn (w.getD (mP w s).toNat 0) s).refs.length ≤ s.refs.length + 1 := by
      unfold goOn
      simp only
      split <;> simp
    have hto : (goOn (w.getD (mP w s).toNat 0) s).turn = s.turn := rfl
    refine ⟨?_, fun hov => ?_⟩
    · split at h2 <;> omega
    · rw [hto]
      have hov' : kH (w.getD (mP w s).toNat 0) s = false := hov
      have hatn : (goOn (w.getD (mP w s).toNat 0) s).at_ = if mB s.turn = true then s.at_ - 1 else s.at_ + 1 := by
        unfold goOn
        simp only
        rw [if_neg (by rw [hov']; decide)]
        split
        · exact w64 (by omega) (by omega)
        · exact w64 (by omega) (by omega)
      rw [hatn]
      split at h2
      · rename_i hd; rw [if_pos hd, if_pos hd]; omega
      · rename_i hd; rw [if_neg hd, if_neg hd]; omega
theorem aLk (w : List Int) (r : Rd) : (mQ w r).seek = r.seek := by
  have hf : (rU w r).seek = r.seek := by unfold rU; split <;> rfl
  unfold mQ
  split
  · rfl
  · split
    · exact hf
    · split
      · rfl
      · exact hf
theorem aMp {w : List Int} {r : Rd} (h : FewS r.seek) : FewS (iB w r).seek := by
  unfold iB
  split
  · unfold qG
    split
    · exact h
    · split
      · exact h
      · split <;> exact h
  split
  · unfold rT
    split
    · exact h
    · rename_i x hx; exact aLj hx
  split
  · exact aMo h
  split
  · rw [aLk]; exact h
  split
  · exact h
  split
  · exact h
  split
  · exact h
  · exact h
theorem aIw {w : List Int} {r : Rd} (h : FewS r.seek) : ∀ k, FewS (seqR w r k).seek
  | 0 => h
  | k + 1 => aMp (aIw h k)
end Lam
namespace Lam
open Go Go.Proofs
def cB.loops : Nat → bV
 | 2 => ⟨[5], [false], [0, 1], [], [], []⟩
 | _ => ⟨[], [], [], [], [], []⟩
def cB.L1 (c : Ctx) (J1 : List AObj → Prop) (K : AOut → List AObj → Prop) (lv : List AV) (h0 : List AObj) (n0 : Nat) (c0 : AV) (c1 : AV) : Prop :=
 ∃ I : Nat → List AV → List AObj → Prop, (∃ n, I n lv h0) ∧ ∀ n h, ∀ t5, I n [t5] h →
 runD (lenD aK h c0) h fun t8 h =>
 runD (binD aB .lss t5 t8) h fun t9 h =>
 bF t9
 (runD (aG aK h c0 t5) h fun t14 h =>
 runD (fitD aB (aD h t14)) h fun t15 h =>
 runD (binD aB .eql t15 c1) h fun t17 h =>
 bF t17
 (K (.ret (.bool true)) h)
 (runD (binD aB .add t5 (.int .i64 1)) h fun t11 h =>
 (∃ m, m < n ∧ I m (AV.norms n0 h [t11]) (cI n0 h)) ∧ AV.norms n0 h [c0, c1] = [c0, c1]))
 (J1 h)
def cB.H (c : Ctx) (t0 : AV) (t1 : AV) (h : List AObj) (K : AOut → List AObj → Prop) : Prop :=
 aL (fun (J1 : List AObj → Prop) =>
 dP [false] [(.int .i64 0)] h fun lv h => cB.L1 c J1 K (AV.norms h.length h lv) (cI h.length h) h.length (AV.norm h.length h t0) (AV.norm h.length h t1))
 (fun h => K (.ret (.bool false)) h)
theorem cB.eq (F : List (FuncId × aE)) (S : List (FuncId × Con)) (t0 t1 : AV) (h : List AObj) (K : AOut → List AObj → Prop) : funW (ctx F S cB.loops) Tryz.f48 [t0, t1] h K = cB.H (ctx F S cB.loops) t0 t1 h K := by kernel_rfl
theorem cB.at : Tryz.prog.funcs[48]? = some Tryz.f48 := by kernel_rfl
theorem cB.nm : (Tryz.f48.name == "runtime.NumGoroutine") = false := by kernel_rfl
theorem cB.bd : Tryz.f48.body.isNone = false := by kernel_rfl
end Lam
namespace Lam
open Go Go.Proofs
def cB.C : aE
  | [.sl _ (.ints .i64 l), .int .i64 v] => some (false, pD (roomy l.length) (.bool (decide (v ∈ l))))
  | _ => none
theorem cB.spec : bO Tryz.prog 48 cB.C := by
  refine bO.of (bP (F := []) (S := []) (by simp) (by simp) cB.loops) cB.at cB.nm cB.bd ?_
  intro vs b S v news e hS
  unfold cB.C at e
  split at e
  rotate_left
  · cases e
  cases e
  rw [cB.eq]
  unfold cB.H
  simp (maxSteps := 4000000) only [go_sem, reduceEqDiff, Nat.reduceLT, reduceAdd, reduceSub, reduceLeDiff, reduceReplicate, reduceToNat]
  rename_i _ l v
  rw [aA]
  unfold cB.L1
  have hr := hS
  unfold roomy at hr
  refine lP (σ := Nat) (fun k => .int .i64 k) (fun k => []) (fun k => l.length - k) (fun k => k ≤ l.length ∧ v ∉ l.take k) 0 rfl rfl ⟨Nat.zero_le _, by simp⟩ ?_
  rintro I back k ⟨hk, hall⟩
  simp only [go_sem, reduceEqDiff, Nat.reduceLT, reduceAdd, reduceSub, reduceLeDiff, reduceReplicate, reduceToNat]
  refine ⟨fun hlt => ⟨by omega, fun h => ?_, fun h => ?_⟩, fun hge => ?_⟩
  · have : v ∈ l := by rw [← h]; exact kB l k 0 (by omega)
    rw [decide_eq_true this]; exact aH rfl rfl
  · refine back (k + 1) (by omega) (by rw [fA (by omega)]) rfl ⟨by omega, fun hm => ?_⟩
    rw [iG l k 0 (by omega), List.mem_append, List.mem_singleton] at hm
    rcases hm with hm | hm
    · exact hall hm
    · exact h hm.symm
  · obtain rfl : k = l.length := by omega
    rw [List.take_length] at hall
    rw [decide_eq_false hall]; exact aH rfl rfl
end Lam
namespace Lam
open Go Go.Proofs
def cA.loops : Nat → bV
 | 4 => ⟨[8, 10], [false, false], [0, 1, 5, 9], [(3, none), (2, some [30, 32])], [], []⟩
 | 10 => ⟨[], [], [], [(4, none), (3, some [53, 56]), (2, none), (2, some [58, 60]), (2, none), (3, some [62, 65])], [], []⟩
 | _ => ⟨[], [], [], [], [], []⟩
def cA.L1 (c : Ctx) (J1 : List AObj → Prop) (K : AOut → List AObj → Prop) (lv : List AV) (h0 : List AObj) (n0 : Nat) (c0 : AV) (c1 : AV) (c5 : AV) (c9 : AV) : Prop :=
 ∃ I : Nat → List AV → List AObj → Prop, (∃ n, I n lv h0) ∧ ∀ n h, ∀ t8, ∀ t10, I n [t8, t10] h →
 runD (binD aB .lss t10 (.int .i64 300)) h fun t29 h =>
 aL (fun (J2 : AV → AV → List AObj → Prop) =>
 bC t29 true
 (runD (binD cM .eql c9 (.int .i64 0)) h fun t32 h =>
 J2 (.bool true) t32 h)
 (J2 (.bool false) .und h))
 (fun t30 t32 h => runD (bS t30 t32 (.bool false)) h fun t33 h =>
 bF t33
 (aS false c (.fn (.func 46) [] []) [c0, t8] h (fun t39 h =>
 runD (bE t39 0) h fun t40 h =>
 runD (bE t39 1) h fun t41 h =>
 cT bD h fun t11 h =>
 runH (aR bD h t11 t40) h fun _ h =>
 aS false c (.fn (.func 47) [] []) [c0, t8] h (fun t45 h =>
 runD (bE t45 0) h fun t46 h =>
 runD (bE t45 1) h fun t47 h =>
 runD (binD cM .neq t41 (.int .i64 0)) h fun t49 h =>
 bF t49
 (K (.ret (.int .i64 1)) h)
 (runD (aC bD t11 0) h fun t50 h =>
 runD (fitD aB (aD h t50)) h fun t51 h =>
 runD (binD aB .eql t51 (.int .i64 0)) h fun t52 h =>
 aL (fun (J3 : AV → AV → List AObj → Prop) =>
 bC t52 true
 (aS false c (.fn (.func 48) [] []) [c5, t8] h (fun t56 h =>
 J3 (.bool true) t56 h)
 (fun v h => K (.pan v) h))
 (J3 (.bool false) .und h))
 (fun t53 t56 h => runD (bS t53 t56 (.bool false)) h fun t57 h =>
 aL (fun (J4 : AV → AV → List AObj → Prop) =>
 bC t57 true
 (runD (binD cM .eql t47 (.int .i64 0)) h fun t60 h =>
 J4 (.bool true) t60 h)
 (J4 (.bool false) .und h))
 (fun t58 t60 h => runD (bS t58 t60 (.bool false)) h fun t61 h =>
 aL (fun (J5 : AV → AV → List AObj → Prop) =>
 bC t61 true
 (runD (binD cH .leq t46 c1) h fun t65 h =>
 J5 (.bool true) t65 h)
 (J5 (.bool false) .und h))
 (fun t62 t65 h => runD (bS t62 t65 (.bool false)) h fun t66 h =>
 bF t66
 (K (.ret (.int .i64 1)) h)
 (runD (aC bD t11 0) h fun t67 h =>
 runD (fitD aB (aD h t67)) h fun t68 h =>
 runD (binD aB .eql t68 (.int .i64 0)) h fun t69 h =>
 bF t69
 (K (.ret (.int .i64 0)) h)
 (aS false c (.fn (.func 49) [] []) [c0, t8, c1, (.int .i64 0)] h (fun t74 h =>
 runD (bE t74 0) h fun t75 h =>
 runD (bE t74 1) h fun t76 h =>
 runD (binD cM .neq t76 (.int .i64 0)) h fun t78 h =>
 bF t78
 (K (.ret (.int .i64 1)) h)
 (runD (binD aB .add t10 (.int .i64 1)) h fun t35 h =>
 (∃ m, m < n ∧ I m (AV.norms n0 h [t75, t35]) (cI n0 h)) ∧ AV.norms n0 h [c0, c1, c5, c9] = [c0, c1, c5, c9]))
 (fun v h => K (.pan v) h))))))))
 (fun v h => K (.pan v) h))
 (fun v h => K (.pan v) h))
 (J1 h))
def cA.H (c : Ctx) (t0 : AV) (t1 : AV) (h : List AObj) (K : AOut → List AObj → Prop) : Prop :=
 aS false c (.fn (.func 24) [] []) [t0] h (fun t19 h =>
 runD (bE t19 0) h fun t20 h =>
 runD (bE t19 1) h fun t21 h =>
 aS false c (.fn (.func 38) [] []) [t0] h (fun t24 h =>
 runD (bE t24 0) h fun t25 h =>
 runD (bE t24 1) h fun t26 h =>
 runD (bE t24 2) h fun t27 h =>
 aL (fun (J1 : List AObj → Prop) =>
 dP [false, false] [t26, (.int .i64 0)] h fun lv h => cA.L1 c J1 K (AV.norms h.length h lv) (cI h.length h) h.length (AV.norm h.length h t0) (AV.norm h.length h t1) (AV.norm h.length h t20) (AV.norm h.length h t27))
 (fun h => K (.ret (.int .i64 0)) h))
 (fun v h => K (.pan v) h))
 (fun v h => K (.pan v) h)
theorem cA.eq (F : List (FuncId × aE)) (S : List (FuncId × Con)) (t0 t1 : AV) (h : List AObj) (K : AOut → List AObj → Prop) : funW (ctx F S cA.loops) Tryz.f23 [t0, t1] h K = cA.H (ctx F S cA.loops) t0 t1 h K := by kernel_rfl
theorem cA.at : Tryz.prog.funcs[23]? = some Tryz.f23 := by kernel_rfl
theorem cA.nm : (Tryz.f23.name == "runtime.NumGoroutine") = false := by kernel_rfl
theorem cA.bd : Tryz.f23.body.isNone = false := by kernel_rfl
end Lam
namespace Lam
open Go Go.Proofs
def cG.loops : Nat → bV
 | 4 => ⟨[9], [false], [4, 5, 7], [(3, none), (3, some [23, 26])], [], []⟩
 | _ => ⟨[], [], [], [], [], []⟩
def cG.L1 (c : Ctx) (J1 : AV → AV → List AObj → Prop) (K : AOut → List AObj → Prop) (lv : List AV) (h0 : List AObj) (n0 : Nat) (c4 : AV) (c5 : AV) (c7 : AV) : Prop :=
 ∃ I : Nat → List AV → List AObj → Prop, (∃ n, I n lv h0) ∧ ∀ n h, ∀ t9, I n [t9] h →
 runD (binD aB .lss t9 (.int .i64 2000)) h fun t22 h =>
 aL (fun (J2 : AV → AV → List AObj → Prop) =>
 bC t22 true
 (runD (aC aU c5 1) h fun t24 h =>
 runD (fitD aB (aD h t24)) h fun t25 h =>
 runD (binD aB .neq t25 (.int .i64 8)) h fun t26 h =>
 J2 (.bool true) t26 h)
 (J2 (.bool false) .und h))
 (fun t23 t26 h => runD (bS t23 t26 (.bool false)) h fun t27 h =>
 bF t27
 (runD (fitD aM (aD h c7)) h fun t31 h =>
 runD (fitD aU (aD h c5)) h fun t32 h =>
 aS false c (.fn (.func 14) [] []) [t31, t32] h (fun t33 h =>
 runD (bE t33 0) h fun t34 h =>
 runD (bE t33 1) h fun t35 h =>
 runH (aR aM h c7 t34) h fun _ h =>
 runH (aR aU h c5 t35) h fun _ h =>
 runD (binD aB .add t9 (.int .i64 1)) h fun t29 h =>
 (∃ m, m < n ∧ I m (AV.norms n0 h [t29]) (cI n0 h)) ∧ AV.norms n0 h [c4, c5, c7] = [c4, c5, c7])
 (fun v h => K (.pan v) h))
 (J1 c4 c5 h))
def cG.H (c : Ctx) (t0 : AV) (t1 : AV) (h : List AObj) (K : AOut → List AObj → Prop) : Prop :=
 cT aU h fun t4 h =>
 aS false c (.fn (.func 27) [] []) [t0, t1] h (fun t13 h =>
 runD (bE t13 0) h fun t14 h =>
 runD (bE t13 1) h fun t15 h =>
 cT aU h fun t5 h =>
 runH (aR aU h t5 t14) h fun _ h =>
 aS false c (.fn (.func 28) [] []) [t0] h (fun t18 h =>
 runD (bE t18 0) h fun t19 h =>
 runD (bE t18 1) h fun t20 h =>
 cT aM h fun t7 h =>
 runH (aR aM h t7 t19) h fun _ h =>
 aL (fun (J1 : AV → AV → List AObj → Prop) =>
 dP [false] [(.int .i64 0)] h fun lv h => cG.L1 c J1 K (AV.norms h.length h lv) (cI h.length h) h.length (AV.norm h.length h t4) (AV.norm h.length h t5) (AV.norm h.length h t7))
 (fun t4 t5 h => runD (fitD aU (aD h t5)) h fun t36 h =>
 runH (aR aU h t4 t36) h fun _ h =>
 cZ (fitD aU (aD h t4)) fun r0 => K (.ret r0) h))
 (fun v h => K (.pan v) h))
 (fun v h => K (.pan v) h)
theorem cG.eq (F : List (FuncId × aE)) (S : List (FuncId × Con)) (t0 t1 : AV) (h : List AObj) (K : AOut → List AObj → Prop) : funW (ctx F S cG.loops) Tryz.f25 [t0, t1] h K = cG.H (ctx F S cG.loops) t0 t1 h K := by kernel_rfl
theorem cG.at : Tryz.prog.funcs[25]? = some Tryz.f25 := by kernel_rfl
theorem cG.nm : (Tryz.f25.name == "runtime.NumGoroutine") = false := by kernel_rfl
theorem cG.bd : Tryz.f25.body.isNone = false := by kernel_rfl
end Lam
namespace Lam
open Go Go.Proofs
def pJ (w : List Int) : List Int := (kD (eC w) w).getD []
theorem aJJ (w : List Int) : ∃ e, pH w = .tup [.sl false (.ints .i64 (pJ w)), .int .i64 e] := by
  unfold pJ pH
  cases kD (eC w) w with
  | none => exact ⟨_, rfl⟩
  | some l => exact ⟨_, rfl⟩
theorem aHQ (w : List Int) : (pJ w).length ≤ w.length / 16 := by
  unfold pJ
  cases h : kD (eC w) w with
  | none => exact Nat.zero_le _
  | some l => exact (kW h).2.2.2.1
theorem aJK {w l : List Int} {key : aY} {k : Nat} {b : Int} (h : cR w b = none) : lA w l key (k + 1) b = true := by unfold lA; rw [h]
theorem aJL {w l : List Int} {key : aY} {k : Nat} {b : Int} {n : Nd} (h : cR w b = some n) (h0 : n.level = 0) : lA w l key (k + 1) b = (decide (b ∈ l) && (match lowO w n with
    | none => false
    | some low => !ltB key low)) := by unfold lA; rw [h]; simp only; rw [if_pos h0] <;> rfl
theorem aMq {w l : List Int} {key : aY} {k : Nat} {b : Int} {n : Nd} (h : cR w b = some n) (h0 : n.level ≠ 0) (hd : kN w b key 0 = none) : lA w l key (k + 1) b = true := by unfold lA; rw [h]; simp only; rw [if_neg h0, hd]
theorem aMr {w l : List Int} {key : aY} {k : Nat} {b t : Int} {n : Nd} (h : cR w b = some n) (h0 : n.level ≠ 0) (hd : kN w b key 0 = some t) : lA w l key (k + 1) b = lA w l key k t := by
  show (match cR w b with
    | none => true
    | some n => _) = _
  rw [h]; simp only; rw [if_neg h0, hd]
def rV (w : List Int) (key : aY) : Int := if eC w = true ∧ lA w (pJ w) key 300 (w.getD 3 0) = true then 1 else 0
def cA.C : aE
  | [.sl _ (.ints .i64 w), .str key] => some (false, pD (iL w) (.int .i64 (rV w key)))
  | _ => none
theorem cA.spec : bO Tryz.prog 23 cA.C := by
  refine bO.of (bP (F := [(24, eF.C), (38, dZ.C), (46, cK.C), (47, dU.C), (48, cB.C), (49, eA.C)]) (S := []) (by simpa using ⟨eF.spec, dZ.spec, cK.spec, dU.spec, cB.spec, eA.spec⟩) (by simp) cA.loops) cA.at cA.nm cA.bd ?_
  intro vs b S v news e hS
  unfold cA.C at e
  split at e
  rotate_left
  · cases e
  cases e
  rw [cA.eq]
  unfold cA.H
  simp (maxSteps := 4000000) only [go_sem, reduceEqDiff, Nat.reduceLT, reduceAdd, reduceSub, reduceLeDiff, reduceReplicate, reduceToNat, eF.C, dZ.C, cK.C, dU.C, cB.C, eA.C]
  rename_i w key
  have hr := iL.roomy hS
  have hw := hS.1
  obtain ⟨el, hlv⟩ := aJJ w
  have hll := aHQ w
  have hrl : roomy (pJ w).length := by unfold roomy; omega
  unfold rV
  generalize pJ w = l at *
  cases hb : eC w with
  | false =>
    have hv : kQ w = .tup [.int .i64 0, .int .i64 0, .int .i64 80] := by unfold kQ; rw [hb]; rfl
    simp only [hlv, hv, aA, decide_false, decide_true, aA, gq, reduceEq, reduceLT, reduceLE, implies_true, reduceCtorEq, if_true, if_false, go_sem, reduceEqDiff, Nat.reduceLT, reduceAdd, reduceSub, reduceLeDiff, reduceReplicate, reduceToNat]
    refine ⟨hS, hr, ?_⟩
    unfold cA.L1
    refine qD (σ := Nat) (fun k => .int .i64 0) (fun k => .int .i64 k) (fun k => []) (fun k => 0) (fun k => True) 0 rfl rfl trivial ?_
    intro I back k hk
    by_cases hk3 : (k : Int) < 300
    · simp only [hk3, aA, decide_false, decide_true, aA, gq, reduceEq, reduceLT, reduceLE, implies_true, reduceCtorEq, if_true, if_false, go_sem, reduceEqDiff, Nat.reduceLT, reduceAdd, reduceSub, reduceLeDiff, reduceReplicate, reduceToNat]
      exact aH (by rw [if_neg (fun h => by cases h.1)]; rfl) rfl
    · simp only [hk3, aA, decide_false, decide_true, aA, gq, reduceEq, reduceLT, reduceLE, implies_true, reduceCtorEq, if_true, if_false, go_sem, reduceEqDiff, Nat.reduceLT, reduceAdd, reduceSub, reduceLeDiff, reduceReplicate, reduceToNat]
      exact aH (by rw [if_neg (fun h => by cases h.1)]; rfl) rfl
  | true =>
    have hv : kQ w = .tup [.int .i64 (w.getD 1 0), .int .i64 (w.getD 3 0), .int .i64 0] := by unfold kQ; rw [hb]; rfl
    simp only [hlv, hv, aA, decide_false, decide_true, aA, gq, reduceEq, reduceLT, reduceLE, implies_true, reduceCtorEq, if_true, if_false, go_sem, reduceEqDiff, Nat.reduceLT, reduceAdd, reduceSub, reduceLeDiff, reduceReplicate, reduceToNat]
    refine ⟨hS, hr, ?_⟩
    obtain ⟨N, hN⟩ : ∃ N : Nat, N = 300 := ⟨_, rfl⟩
    rw [← hN]
    obtain ⟨Q, hQ⟩ : ∃ Q, lA w l key N (w.getD 3 0) = Q := ⟨_, rfl⟩
    rw [hQ]
    unfold cA.L1
    refine qD (σ := Nat × Int) (fun s => .int .i64 s.2) (fun s => .int .i64 s.1) (fun s => []) (fun s => N - s.1) (fun s => s.1 ≤ N ∧ lA w l key (N - s.1) s.2 = Q) (0, w.getD 3 0) rfl rfl ⟨by simp only; omega, hQ⟩ ?_
    rintro I back ⟨k, at_⟩ ⟨hk, hland⟩
    simp only at hk hland ⊢
    by_cases hk3 : k < N
    rotate_left
    · obtain rfl : k = N := by omega
      clear back
      rw [Nat.sub_self] at hland
      have hl0 : Q = false := hland.symm
      have d1 : decide ((k : Int) < 300) = false := decide_eq_false (by omega)
      simp only [hl0, d1, aA, decide_false, decide_true, aA, gq, reduceEq, reduceLT, reduceLE, implies_true, reduceCtorEq, if_true, if_false, go_sem, reduceEqDiff, Nat.reduceLT, reduceAdd, reduceSub, reduceLeDiff, reduceReplicate, reduceToNat]
      exact aH rfl rfl
    have d1 : decide ((k : Int) < 300) = true := decide_eq_true (by omega)
    obtain ⟨e2, h2⟩ := aNt w at_
    obtain ⟨m, hm⟩ : ∃ m, N - k = m + 1 := ⟨N - 1 - k, by omega⟩
    have hb : ∀ t, lA w l key m t = Q → _ := fun t ht => @back (N - k) _ [] (k + 1, t) (by simp only; omega) rfl rfl ⟨by simp only; omega, by simp only; rw [show N - (k + 1) = m by omega]; exact ht⟩
    clear back
    rw [hm] at hland
    cases hn : cR w at_ with
    | none =>
      obtain ⟨e, he, h⟩ := pG hn
      rw [aJK hn] at hland
      simp only [cK.C, dU.C, h, h2, d1, jI, he, ← hland, decide_false, decide_true, aA, aA, gq, reduceEq, reduceLT, reduceLE, implies_true, reduceCtorEq, if_true, if_false, go_sem, reduceEqDiff, Nat.reduceLT, reduceAdd, reduceSub, reduceLeDiff, reduceReplicate, reduceToNat]
      exact ⟨hr, hS, aH rfl rfl⟩
    | some n =>
      by_cases h0 : n.level = 0
      · rw [aJL hn h0] at hland
        obtain ⟨n1, n2, n3, n4, n5⟩ := n
        simp only at h0
        subst h0
        clear hb
        cases hl : lowO w ⟨0, n2, n3, n4, n5⟩ with
        | none =>
          have hv : lowV w at_ = .tup [.str [], .int .i64 110] := by unfold lowV; rw [hn]; simp only [Option.bind_some, hl]
          rw [hl] at hland
          simp only [Bool.and_false] at hland
          subst hland
          cases hin : decide (at_ ∈ l) with
          | true =>
            simp only [cK.C, dU.C, cB.C, iT hn, Nd.V, hv, hin, d1, decide_false, decide_true, aA, aA, gq, reduceEq, reduceLT, reduceLE, implies_true, reduceCtorEq, if_true, if_false, go_sem, reduceEqDiff, Nat.reduceLT, reduceAdd, reduceSub, reduceLeDiff, reduceReplicate, reduceToNat]
            exact ⟨hr, hS, hrl, aH rfl rfl⟩
          | false =>
            simp only [cK.C, dU.C, cB.C, iT hn, Nd.V, hv, hin, d1, decide_false, decide_true, aA, aA, gq, reduceEq, reduceLT, reduceLE, implies_true, reduceCtorEq, if_true, if_false, go_sem, reduceEqDiff, Nat.reduceLT, reduceAdd, reduceSub, reduceLeDiff, reduceReplicate, reduceToNat]
            exact ⟨hr, hS, hrl, aH rfl rfl⟩
        | some low =>
          have hv : lowV w at_ = .tup [.str low, .int .i64 0] := by unfold lowV; rw [hn]; simp only [Option.bind_some, hl]
          rw [hl] at hland
          simp only at hland
          cases hin : decide (at_ ∈ l) with
          | true =>
            cases hlt : ltB key low with
            | true =>
              rw [hin, hlt] at hland
              subst hland
              simp only [cK.C, dU.C, cB.C, iT hn, Nd.V, hv, hin, hlt, d1, decide_false, decide_true, aA, aA, gq, reduceEq, reduceLT, reduceLE, implies_true, reduceCtorEq, if_true, if_false, go_sem, reduceEqDiff, Nat.reduceLT, reduceAdd, reduceSub, reduceLeDiff, reduceReplicate, reduceToNat]
              exact ⟨hr, hS, hrl, aH rfl rfl⟩
            | false =>
              rw [hin, hlt] at hland
              subst hland
              simp only [cK.C, dU.C, cB.C, iT hn, Nd.V, hv, hin, hlt, d1, decide_false, decide_true, aA, aA, gq, reduceEq, reduceLT, reduceLE, implies_true, reduceCtorEq, if_true, if_false, go_sem, reduceEqDiff, Nat.reduceLT, reduceAdd, reduceSub, reduceLeDiff, reduceReplicate, reduceToNat]
              exact ⟨hr, hS, hrl, aH rfl rfl⟩
          | false =>
            rw [hin, Bool.false_and] at hland
            subst hland
            simp only [cK.C, dU.C, cB.C, iT hn, Nd.V, hv, hin, d1, decide_false, decide_true, aA, aA, gq, reduceEq, reduceLT, reduceLE, implies_true, reduceCtorEq, if_true, if_false, go_sem, reduceEqDiff, Nat.reduceLT, reduceAdd, reduceSub, reduceLeDiff, reduceReplicate, reduceToNat]
            exact ⟨hr, hS, hrl, aH rfl rfl⟩
      · cases hd : kN w at_ key 0 with
        | none =>
          have hv : nO w at_ key 0 = .tup [.int .i64 0, .int .i64 90] := by unfold nO; rw [hd]
          rw [aMq hn h0 hd] at hland
          rw [← hland]
          obtain ⟨n1, n2, n3, n4, n5⟩ := n
          simp only at h0
          simp only [cK.C, dU.C, eA.C, iT hn, Nd.V, h2, hv, h0, d1, decide_false, decide_true, aA, aA, gq, reduceEq, reduceLT, reduceLE, implies_true, reduceCtorEq, if_true, if_false, go_sem, reduceEqDiff, Nat.reduceLT, reduceAdd, reduceSub, reduceLeDiff, reduceReplicate, reduceToNat]
          exact ⟨hr, hS, hS, aH rfl rfl⟩
        | some t =>
          have hv : nO w at_ key 0 = .tup [.int .i64 t, .int .i64 0] := by unfold nO; rw [hd]
          rw [aMr hn h0 hd] at hland
          have hb2 := hb t hland
          clear hb
          obtain ⟨n1, n2, n3, n4, n5⟩ := n
          simp only at h0
          simp only [cK.C, dU.C, eA.C, iT hn, Nd.V, h2, hv, h0, d1, fA (show k < 4611686018427387904 by omega), decide_false, decide_true, aA, aA, gq, reduceEq, reduceLT, reduceLE, implies_true, reduceCtorEq, if_true, if_false, go_sem, reduceEqDiff, Nat.reduceLT, reduceAdd, reduceSub, reduceLeDiff, reduceReplicate, reduceToNat] at hb2 ⊢
          exact ⟨hr, hS, hS, hb2⟩
end Lam
namespace Lam
open Go Go.Proofs
def begR (w : List Int) (key : aY) : Rd := if key ≠ [] ∧ key.length ≤ 21 then rd0 w key else rdZ
theorem aLl (w : List Int) (key : aY) : ∃ e, mR w key = .tup [(begR w key).V, .int .i64 e] := by
  unfold mR begR
  by_cases h : key ≠ [] ∧ key.length ≤ 21
  · rw [if_pos h, if_pos h]; exact ⟨_, rfl⟩
  · rw [if_neg h, if_neg h]; exact ⟨_, rfl⟩
theorem aNv (w : List Int) (key : aY) : FewS (begR w key).seek := by
  unfold begR
  split
  · exact aIv
  · exact aIv
theorem aNw {w : List Int} (h1 : w.length ≤ 1000) (h2 : w.length % 16 = 0) : newM w = .tup [memV w w [], .int .i64 0] := by
  have hs : szB w.length = true := by
    unfold szB
    rw [decide_eq_true (by omega), Int.tmod_eq_emod_of_nonneg (by omega), decide_eq_true (by omega)]; rfl
  unfold newM
  rw [hs]; rfl
theorem aLm {w : List Int} (hw : w.length ≤ 1000) (hi : i64s w) (r : Rd) (h : FewS r.seek) : (kP w w [] ∧ iL w ∧ r.seek.refs.length ≤ 200) ∧ nP ⟨w, w, []⟩ r = (⟨w, w, []⟩, iB w r) :=
  ⟨⟨⟨by unfold roomy; omega, by unfold roomy; omega, by unfold roomy; decide⟩, ⟨by omega, hi⟩, Nat.le_trans h.1 (by decide)⟩, aHP w r⟩
def uU (w : List Int) (key : aY) : Rd := seqR w (begR w key) 2000
def cG.C : aE
  | [.sl _ (.ints .i64 w), .str key] => some (false, pD (w.length ≤ 1000 ∧ w.length % 16 = 0 ∧ i64s w) (uU w key).V)
  | _ => none
theorem cG.spec : bO Tryz.prog 25 cG.C := by
  refine bO.of (bP (F := [(27, eY.C), (28, gR.C), (14, fQ.C)]) (S := []) (by simpa using ⟨eY.spec, gR.spec, fQ.spec⟩) (by simp) cG.loops) cG.at cG.nm cG.bd ?_
  intro vs b S v news e hS
  unfold cG.C at e
  split at e
  rotate_left
  · cases e
  cases e
  rw [cG.eq]
  unfold cG.H
  simp (maxSteps := 4000000) only [go_sem, reduceEqDiff, Nat.reduceLT, reduceAdd, reduceSub, reduceLeDiff, reduceReplicate, reduceToNat, eY.C, gR.C, fQ.C]
  rename_i w key
  obtain ⟨hw, h16, hi⟩ := hS
  have hr : roomy w.length := by unfold roomy; omega
  obtain ⟨eb, hbg⟩ := aLl w key
  have hfew := aNv w key
  unfold uU
  generalize begR w key = r0 at *
  have hst : ∀ k, _ := fun k => aLm hw hi _ (aIw (w := w) hfew k)
  have hnx : ∀ k, iB w (seqR w r0 k) = seqR w r0 (k + 1) := fun _ => rfl
  obtain ⟨N, hN⟩ : ∃ N : Nat, N = 2000 := ⟨_, rfl⟩
  rw [← hN]
  have hend : ∀ k, k ≤ N → (seqR w r0 k).phase = 8 → seqR w r0 N = seqR w r0 k := fun k hk h => aDz h hk
  have h0 : seqR w r0 0 = r0 := rfl
  have hnm := aNw hw h16
  generalize seqR w r0 = f at *
  obtain ⟨Z, hZ⟩ : ∃ Z, f N = Z := ⟨_, rfl⟩
  rw [hZ] at hend ⊢
  clear hfew
  obtain ⟨z1, z2, z3, z4, ⟨v1, v2, v3, v4, v5⟩, z5, z6⟩ := Z
  simp only [hbg, hnm, memV, aA, gq, reduceEq, reduceLT, reduceLE, implies_true, reduceCtorEq, if_true, if_false, go_sem, reduceEqDiff, Nat.reduceLT, reduceAdd, reduceSub, reduceLeDiff, reduceReplicate, reduceToNat]
  obtain ⟨r1, r2, r3, r4, ⟨s1, s2, s3, s4, s5⟩, r5, r6⟩ := r0
  simp only [Rd.V, Sk.V, aA, gq, reduceEq, reduceLT, reduceLE, implies_true, reduceCtorEq, if_true, if_false, go_sem, reduceEqDiff, Nat.reduceLT, reduceAdd, reduceSub, reduceLeDiff, reduceReplicate, reduceToNat]
  refine ⟨hr, hr, ?_⟩
  unfold cG.L1
  refine lP (σ := Nat) (fun k => .int .i64 k) (fun k => [.box rdZ.V, .box (f k).V, .box (memV w w [])]) (fun k => N - k) (fun k => k ≤ N) 0 rfl (by rw [h0]; rfl) (Nat.zero_le _) ?_
  intro I back k hk
  simp only
  obtain ⟨hst, hsv⟩ := hst k
  have hb : k < N → _ := fun h => @back (N - k) _ _ (k + 1) (by omega) rfl rfl (by omega)
  have hend := hend k hk
  rw [hnx] at hsv
  clear back hnx
  by_cases hkN : k < N
  · have d1 : decide ((k : Int) < 2000) = true := decide_eq_true (by omega)
    generalize f (k + 1) = y at *
    generalize f k = x at *
    obtain ⟨x1, x2, x3, x4, ⟨y1, y2, y3, y4, y5⟩, x5, x6⟩ := x
    simp only at hst hend
    by_cases h8 : x2 = 8
    · subst h8
      have hend := hend rfl
      clear hb hst hsv
      simp only [Rd.mk.injEq, Sk.mk.injEq] at hend
      obtain ⟨rfl, rfl, rfl, rfl, ⟨rfl, rfl, rfl, rfl, rfl⟩, rfl, rfl⟩ := hend
      simp only [rdZ, Rd.V, Sk.V, skZ, memV, d1, decide_false, decide_true, aA, aA, gq, reduceEq, reduceLT, reduceLE, implies_true, reduceCtorEq, if_true, if_false, go_sem, reduceEqDiff, Nat.reduceLT, reduceAdd, reduceSub, reduceLeDiff, reduceReplicate, reduceToNat]
      exact aH rfl rfl
    · have hb := hb hkN
      obtain ⟨a1, a2, a3, a4, ⟨b1, b2, b3, b4, b5⟩, a5, a6⟩ := y
      simp only [fQ.C, hsv, Mm.V, rdZ, Rd.V, Sk.V, skZ, memV, d1, h8, fA (show k < 4611686018427387904 by omega), decide_false, decide_true, aA, aA, gq, reduceEq, reduceLT, reduceLE, implies_true, reduceCtorEq, if_true, if_false, go_sem, reduceEqDiff, Nat.reduceLT, reduceAdd, reduceSub, reduceLeDiff, reduceReplicate, reduceToNat] at hb ⊢
      exact ⟨hst, hb⟩
  · obtain rfl : k = N := by omega
    have d1 : decide ((k : Int) < 2000) = false := decide_eq_false (by omega)
    clear hb hend hst hsv
    rw [hZ]
    simp only [rdZ, Rd.V, Sk.V, skZ, memV, d1, decide_false, decide_true, aA, aA, gq, reduceEq, reduceLT, reduceLE, implies_true, reduceCtorEq, if_true, if_false, go_sem, reduceEqDiff, Nat.reduceLT, reduceAdd, reduceSub, reduceLeDiff, reduceReplicate, reduceToNat]
    exact aH rfl rfl
end Lam
namespace Lam
open Go Go.Proofs
theorem aEX (w : List Int) : ∀ k, seqR w rdZ k = rdZ
  | 0 => rfl
  | k + 1 => by
    show iB w (seqR w rdZ k) = rdZ
    rw [aEX w k]
    unfold iB
    rw [if_neg (by decide), if_neg (by decide), if_neg (by decide), if_neg (by decide), if_neg (by decide), if_neg (by decide), if_neg (by decide)]
theorem aGX {w : List Int} {key : aY} (h : ¬(key ≠ [] ∧ key.length ≤ 21)) : uU w key = rdZ := by
  unfold uU begR
  rw [if_neg h]; exact aEX w _
theorem aJM {w l : List Int} {key : aY} (h : iI (eC w) w = some l) (hl : rV w key ≠ 0) : lA w l key 300 (w.getD 3 0) = true := by
  unfold rV pJ at hl
  rw [(pI h).1] at hl
  by_cases hc : eC w = true ∧ lA w ((some l).getD []) key 300 (w.getD 3 0) = true
  · exact hc.2
  · rw [if_neg hc] at hl; exact absurd rfl hl
theorem aIx {w l : List Int} {key : aY} (hw : w.length ≤ 1000) (h : iI (eC w) w = some l) (hk : key ≠ [] ∧ key.length ≤ 21) (hl : rV w key ≠ 0) : ∃ a c d e, uU w key = ⟨a, 8, c, d, e, (aAQ (getP (allP w l) key)).2, (aAQ (getP (allP w l) key)).1⟩ := by
  have hll := (kW (pI h).1).2.2.2.1
  obtain ⟨h1, h2⟩ := aSG h (by omega) (aJM h hl) 2000 (by omega)
  have e : uU w key = seqR w (rd0 w key) 2000 := by unfold uU begR; rw [if_pos hk]
  rw [e]
  generalize seqR w (rd0 w key) 2000 = r at *
  obtain ⟨r1, r2, r3, r4, r5, r6, r7⟩ := r
  simp only at h1 h2
  subst h1
  rw [← h2]
  exact ⟨r1, r3, r4, r5, rfl⟩
end Lam
namespace Lam
open Go
structure tR (l w w' : List Int) : Prop where
  len : w'.length = w.length
  new : ∀ b ∈ l, ∃ t, 0 ≤ t ∧ t ≤ 1099511627776 ∧ w'.getD (16 * b.toNat) 0 = 1152921504606846976 + 16 * t
  old : ∀ k, (∀ b ∈ l, k ≠ 16 * b.toNat) → w'.getD k 0 = w.getD k 0
theorem aJN (w : List Int) : tR [] w w := ⟨rfl, fun b h => absurd h (by simp), fun k _ => rfl⟩
theorem aHR {l w x : List Int} (h : tR l w x) {b t : Int} (hb : 0 ≤ b) (hw : 16 * b.toNat < w.length) (h0 : 0 ≤ t) (h1 : t ≤ 1099511627776) : tR (l ++ [b]) w (x.set (16 * b.toNat) (1152921504606846976 + 16 * t)) := by
  obtain ⟨q1, q2, q3⟩ := h
  refine ⟨by rw [List.length_set, q1], fun c hc => ?_, fun k hk => ?_⟩
  · rw [vQ]
    by_cases e : 16 * b.toNat = 16 * c.toNat
    · rw [if_pos ⟨e, by omega⟩]; exact ⟨t, h0, h1, rfl⟩
    · rw [if_neg fun h => e h.1]
      rcases List.mem_append.1 hc with hc | hc
      · exact q2 c hc
      · rw [List.mem_singleton] at hc; exact absurd (by rw [hc]) e
  · rw [vQ, if_neg fun h => hk b (by simp) h.1.symm]
    exact q3 k fun c hc => hk c (by simp [hc])
section
variable {w w' l : List Int}
theorem aAT (ht : tR l w w') (hl : ∀ x ∈ l, 0 ≤ x) {b : Int} (h0 : 0 ≤ b) (hb : b ∉ l) : eQ w' b.toNat = eQ w b.toNat :=
  aHN ht.len fun k hk => ht.old k fun c hc e => hb (by have := hl c hc; rw [show b = c by omega]; exact hc)
theorem aHS (n : Nd) (t : Int) (i : Nat) : (fM { n with turn := t }).getD i 0 = if i = 0 then 1152921504606846976 + 16 * t + n.level else (fM n).getD i 0 := by
  cases i with
  | zero => rfl
  | succ i => rfl
theorem aBL (ht : tR l w w') (hl : ∀ x ∈ l, 0 ≤ x) {b : Int} (hb : b ∈ l) {n : Nd} (hn : cR w b = some n) (hlev : n.level = 0) : ∃ t, cR w' b = some { n with turn := t } := by
  obtain ⟨hok, h0, h1, hr⟩ := kV hn
  obtain ⟨t, t0, t1, ht1⟩ := ht.new b hb
  have hlen := ht.len
  have hok' : ({ n with turn := t } : Nd).ok := ⟨hok.1, hok.2.1, t0, t1, hok.2.2.2.2⟩
  have hw := (uN hr).2
  have hlw := tJ hok
  have hblk : eQ w' b.toNat = fM { n with turn := t } := by
    refine aMG 0 ?_ fun i hi => ?_
    · rw [tJ hok']
      unfold eQ
      rw [List.length_take, List.length_drop]; omega
    · have hi16 : i < 16 := by unfold eQ at hi; rw [List.length_take] at hi; omega
      have e1 : (eQ w' b.toNat).getD i 0 = w'.getD (16 * b.toNat + i) 0 := by
        unfold eQ; rw [tH, if_pos hi16, tI]
      have e2 : (eQ w b.toNat).getD i 0 = w.getD (16 * b.toNat + i) 0 := by
        unfold eQ; rw [tH, if_pos hi16, tI]
      rw [e1, aHS]
      by_cases hz : i = 0
      · rw [if_pos hz, hz, hlev, Nat.add_zero, ht1]; omega
      · rw [if_neg hz, hw, e2]
        exact ht.old _ fun c hc e => by omega
  refine ⟨t, ?_⟩
  unfold cR
  rw [if_neg (by simp only [Bool.or_eq_true, decide_eq_true_eq, not_or]; omega), hblk]
  exact aLR hok'
theorem aLn {W : List Int} (h : 2 < W.getD 0 0) : sS W = none := by
  cases hr : sS W with
  | none => rfl
  | some x =>
    obtain ⟨hok, hf⟩ := yZ hr
    have : W.getD 0 0 = x.kind := by rw [← hf]; rfl
    rcases hok with hk | hk <;> omega
theorem aJO (ht : tR l w w') (hl : ∀ x ∈ l, 0 ≤ x ∧ ∃ n, cR w x = some n ∧ n.level = 0) (b : Int) : recO w' b = recO w b := by
  by_cases hb : b ∈ l
  · obtain ⟨h0, n, hn, hlev⟩ := hl b hb
    obtain ⟨t, hn'⟩ := aBL ht (fun x hx => (hl x hx).1) hb hn hlev
    have big : ∀ {W : List Int} {m : Nd}, cR W b = some m → recO W b = none := fun {W m} h => by
      obtain ⟨hok, q0, q1, hr⟩ := kV h
      have hw := (uN hr).2
      unfold recO
      rw [if_neg (by simp only [Bool.or_eq_true, decide_eq_true_eq, not_or]; omega)]
      refine aLn ?_
      rw [← hw]
      show 2 < 1152921504606846976 + 16 * m.turn + m.level
      have := hok.1; have := hok.2.2.1
      omega
    rw [big hn, big hn']
  · exact aJE ht.len fun h0 => aAT ht (fun x hx => (hl x hx).1) h0 hb
def aMP (w w' : List Int) : Prop := ∀ b, (cR w b = none ∧ cR w' b = none) ∨ ∃ n t, cR w b = some n ∧ cR w' b = some { n with turn := t }
theorem aHT (ht : tR l w w') (hl : ∀ x ∈ l, 0 ≤ x ∧ ∃ n, cR w x = some n ∧ n.level = 0) : aMP w w' := by
  intro b
  by_cases hb : b ∈ l
  · obtain ⟨h0, n, hn, hlev⟩ := hl b hb
    obtain ⟨t, hn'⟩ := aBL ht (fun x hx => (hl x hx).1) hb hn hlev
    exact .inr ⟨n, t, hn, hn'⟩
  · have e := aHM (b := b) ht.len fun h0 => aAT ht (fun x hx => (hl x hx).1) h0 hb
    cases hn : cR w b with
    | none => exact .inl ⟨rfl, by rw [e, hn]⟩
    | some n => exact .inr ⟨n, n.turn, rfl, by rw [e, hn]⟩
variable (hr : ∀ b, recO w' b = recO w b) (hn : aMP w w')
include hr in
theorem zF (n : Nd) (t : Int) : lowO w' { n with turn := t } = lowO w n := by
  unfold lowO
  simp only [hr]
include hn in
theorem aDC : ∀ (m : Nat) (b : Int) (out : List Int), nB w' m b out = nB w m b out
  | 0, _, _ => rfl
  | m + 1, b, out => by
    simp only [nB]
    rcases hn b with ⟨h1, h2⟩ | ⟨n, t, h1, h2⟩
    · rw [h1, h2]
    · rw [h1, h2]
      simp only [aDC m]
include hr hn in
theorem aLo (i : Nat) (last : aY) (b : Int) : lH w' i last b = lH w i last b := by
  unfold lH
  rcases hn b with ⟨h1, h2⟩ | ⟨n, t, h1, h2⟩
  · rw [h1, h2]
  · rw [h1, h2]
    simp only [zF hr, aAO (l := plain n.slots) fun s _ => hr s]
include hr hn in
theorem aBM : ∀ (l : List Int) (i : Nat) (last : aY), jN w' l i last = jN w l i last
  | [], _, _ => rfl
  | b :: r, i, last => by
    simp only [jN, aLo hr hn]
    cases lH w i last b with
    | none => rfl
    | some low => exact aBM r _ _
include hr hn in
theorem aLp (hl : w'.length = w.length) (hb : eC w' = eC w) : iI (eC w') w' = iI (eC w) w := by
  unfold iI kD
  rw [hb, hl, aDC hn]
  split
  · rfl
  · rw [aBM hr hn]
include hr hn in
theorem aEY (b : Int) : uO w' b = uO w b := by
  unfold uO
  rcases hn b with ⟨h1, h2⟩ | ⟨n, t, h1, h2⟩
  · rw [h1, h2]
  · rw [h1, h2]; simp only [zF hr]
include hr in
theorem aJP (key : aY) (n : Nd) (t : Int) : tM w' key { n with turn := t } = tM w key n := by
  unfold tM
  have : rH w' key = rH w key := by funext o s; unfold rH; rw [hr]
  rw [this]
include hr hn in
theorem aLq (b : Int) (key : aY) (lev : Int) : kN w' b key lev = kN w b key lev := by
  unfold kN
  rcases hn b with ⟨h1, h2⟩ | ⟨n, t, h1, h2⟩
  · rw [h1, h2]
  · rw [h1, h2]
    have e : uP w' b key lev { n with turn := t } = uP w b key lev n := by
      unfold uP aGz
      rw [aJP hr, aEY hr hn]
    simp only [e, aEY hr hn]
include hr hn in
theorem aEZ (b : Int) : lowZ w' b = lowZ w b := by
  unfold lowZ
  rcases hn b with ⟨h1, h2⟩ | ⟨n, t, h1, h2⟩
  · rw [h1, h2]; rfl
  · rw [h1, h2]
    simp only [Option.bind_some, zF hr]
include hr hn in
theorem aFa (l : List Int) (key : aY) : ∀ (k : Nat) (b : Int), lA w' l key k b = lA w l key k b
  | 0, _ => rfl
  | k + 1, b => by
    unfold lA
    rcases hn b with ⟨h1, h2⟩ | ⟨n, t, h1, h2⟩
    · rw [h1, h2]
    · rw [h1, h2]
      simp only [zF hr, aLq hr hn, aFa l key k]
include hr hn in
theorem aMs (b : Int) : ownP w' b = ownP w b := by
  have hz : recZ w' = recZ w := by funext s; unfold recZ; rw [hr]
  unfold ownP ownL uT
  rw [hz]
  rcases hn b with ⟨h1, h2⟩ | ⟨n, t, h1, h2⟩
  · rw [h1, h2]
    have : ownB w' ((none : Option Nd).getD ⟨0, 0, 0, 0, []⟩) = ownB w ((none : Option Nd).getD ⟨0, 0, 0, 0, []⟩) := by funext x; unfold ownB; rw [aEZ hr hn]
    rw [this]
  · rw [h1, h2]
    have : ownB w' ((some ({ n with turn := t } : Nd)).getD ⟨0, 0, 0, 0, []⟩) = ownB w ((some n).getD ⟨0, 0, 0, 0, []⟩) := by
      funext x; unfold ownB
      rw [aEZ hr hn]; rfl
    rw [this]; rfl
include hr hn in
theorem aMt (l : List Int) : allP w' l = allP w l := by
  unfold allP
  have : ownP w' = ownP w := by funext b; exact aMs hr hn b
  rw [this]
end
end Lam
namespace Lam
open Go Go.Proofs
def dT.loops : Nat → bV
 | 2 => ⟨[], [], [], [(4, none), (4, some [18, 22]), (2, none), (3, some [24, 27]), (2, none), (3, some [29, 32]), (2, none), (3, some [34, 37]), (2, none), (3, some [39, 42]), (2, none), (4, some [44, 48])], [], []⟩
 | 7 => ⟨[11], [false], [0, 1, 2, 7, 8, 10], [], [], []⟩
 | 12 => ⟨[], [], [], [(2, none), (3, some [89, 92]), (2, none), (5, some [94, 99]), (2, none), (5, some [101, 106]), (2, none), (5, some [108, 113])], [], []⟩
 | _ => ⟨[], [], [], [], [], []⟩
def dT.L1 (c : Ctx) (J7 : AV → AV → AV → AV → List AObj → Prop) (K : AOut → List AObj → Prop) (lv : List AV) (h0 : List AObj) (n0 : Nat) (c0 : AV) (c1 : AV) (c2 : AV) (c7 : AV) (c8 : AV) (c10 : AV) : Prop :=
 ∃ I : Nat → List AV → List AObj → Prop, (∃ n, I n lv h0) ∧ ∀ n h, ∀ t11, I n [t11] h →
 runD (lenD aK h c8) h fun t61 h =>
 runD (binD aB .lss t11 t61) h fun t62 h =>
 bF t62
 (runD (aG aK h c8 t11) h fun t68 h =>
 runD (fitD aB (aD h t68)) h fun t69 h =>
 runD (binD aB .mul (.int .i64 16) t69) h fun t70 h =>
 runD (lenD iS h c2) h fun t74 h =>
 runD (binD aB .rem t11 t74) h fun t75 h =>
 runD (aG iS h c2 t75) h fun t76 h =>
 runD (fitD lT (aD h t76)) h fun t77 h =>
 runD (jG h lT aB t77) h fun t78 h =>
 runD (binD aB .mul (.int .i64 16) t78) h fun t79 h =>
 runD (binD aB .add (.int .i64 1152921504606846976) t79) h fun t80 h =>
 runD (aG aK h c10 t70) h fun t81 h =>
 runH (aR aB h t81 t80) h fun _ h =>
 runD (binD aB .add t11 (.int .i64 1)) h fun t64 h =>
 (∃ m, m < n ∧ I m (AV.norms n0 h [t64]) (cI n0 h)) ∧ AV.norms n0 h [c0, c1, c2, c7, c8, c10] = [c0, c1, c2, c7, c8, c10])
 (J7 c0 c1 c7 c10 h)
def dT.H (c : Ctx) (t0 : AV) (t1 : AV) (t2 : AV) (h : List AObj) (K : AOut → List AObj → Prop) : Prop :=
 aS false c (.fn (.func 11) [] []) [] h (fun t14 h =>
 runD (lenD aK h t0) h fun t16 h =>
 runD (binD aB .gtr t16 (.int .i64 1000)) h fun t17 h =>
 aL (fun (J1 : AV → AV → List AObj → Prop) =>
 bC t17 false
 (runD (lenD aK h t0) h fun t20 h =>
 runD (binD aB .rem t20 (.int .i64 16)) h fun t21 h =>
 runD (binD aB .neq t21 (.int .i64 0)) h fun t22 h =>
 J1 (.bool false) t22 h)
 (J1 (.bool true) .und h))
 (fun t18 t22 h => runD (bS t18 (.bool true) t22) h fun t23 h =>
 aL (fun (J2 : AV → AV → List AObj → Prop) =>
 bC t23 false
 (runD (lenD cH h t1) h fun t26 h =>
 runD (binD aB .gtr t26 (.int .i64 100)) h fun t27 h =>
 J2 (.bool false) t27 h)
 (J2 (.bool true) .und h))
 (fun t24 t27 h => runD (bS t24 (.bool true) t27) h fun t28 h =>
 aL (fun (J3 : AV → AV → List AObj → Prop) =>
 bC t28 false
 (runD (lenD iS h t2) h fun t31 h =>
 runD (binD aB .eql t31 (.int .i64 0)) h fun t32 h =>
 J3 (.bool false) t32 h)
 (J3 (.bool true) .und h))
 (fun t29 t32 h => runD (bS t29 (.bool true) t32) h fun t33 h =>
 aL (fun (J4 : AV → AV → List AObj → Prop) =>
 bC t33 false
 (runD (lenD iS h t2) h fun t36 h =>
 runD (binD aB .gtr t36 (.int .i64 100)) h fun t37 h =>
 J4 (.bool false) t37 h)
 (J4 (.bool true) .und h))
 (fun t34 t37 h => runD (bS t34 (.bool true) t37) h fun t38 h =>
 aL (fun (J5 : AV → AV → List AObj → Prop) =>
 bC t38 false
 (aS false c (.fn (.func 22) [] []) [t0] h (fun t41 h =>
 runD (binD cM .neq t41 (.int .i64 0)) h fun t42 h =>
 J5 (.bool false) t42 h)
 (fun v h => K (.pan v) h))
 (J5 (.bool true) .und h))
 (fun t39 t42 h => runD (bS t39 (.bool true) t42) h fun t43 h =>
 aL (fun (J6 : AV → AV → List AObj → Prop) =>
 bC t43 false
 (aS false c (.fn (.func 23) [] []) [t0, t1] h (fun t47 h =>
 runD (binD aB .eql t47 (.int .i64 0)) h fun t48 h =>
 J6 (.bool false) t48 h)
 (fun v h => K (.pan v) h))
 (J6 (.bool true) .und h))
 (fun t44 t48 h => runD (bS t44 (.bool true) t48) h fun t49 h =>
 bF t49
 (K (.ret t14) h)
 (aS false c (.fn (.func 24) [] []) [t0] h (fun t53 h =>
 runD (bE t53 0) h fun t54 h =>
 runD (bE t53 1) h fun t55 h =>
 runD (gA aK 0 [] h.length) h fun t56 h =>
 jZ (gP aK h t56 t0 h.length) (hX aK h t56 t0) h fun t58 h =>
 aL (fun (J7 : AV → AV → AV → AV → List AObj → Prop) =>
 dP [false] [(.int .i64 0)] h fun lv h => dT.L1 c J7 K (AV.norms h.length h lv) (cI h.length h) h.length (AV.norm h.length h t0) (AV.norm h.length h t1) (AV.norm h.length h t2) (AV.norm h.length h t14) (AV.norm h.length h t54) (AV.norm h.length h t58))
 (fun t0 t1 t7 t10 h => aS false c (.fn (.func 25) [] []) [t0, t1] h (fun t84 h =>
 cT aU h fun t12 h =>
 runH (aR aU h t12 t84) h fun _ h =>
 aS false c (.fn (.func 25) [] []) [t10, t1] h (fun t87 h =>
 cT aU h fun t13 h =>
 runH (aR aU h t13 t87) h fun _ h =>
 aL (fun (J8 : AV → AV → List AObj → Prop) =>
 bC t7 true
 (aS false c (.fn (.func 22) [] []) [t10] h (fun t91 h =>
 runD (binD cM .eql t91 (.int .i64 0)) h fun t92 h =>
 J8 (.bool true) t92 h)
 (fun v h => K (.pan v) h))
 (J8 (.bool false) .und h))
 (fun t89 t92 h => runD (bS t89 t92 (.bool false)) h fun t93 h =>
 aL (fun (J9 : AV → AV → List AObj → Prop) =>
 bC t93 true
 (runD (aC aU t12 6) h fun t95 h =>
 runD (fitD lC (aD h t95)) h fun t96 h =>
 runD (aC aU t13 6) h fun t97 h =>
 runD (fitD lC (aD h t97)) h fun t98 h =>
 runD (binD lC .eql t96 t98) h fun t99 h =>
 J9 (.bool true) t99 h)
 (J9 (.bool false) .und h))
 (fun t94 t99 h => runD (bS t94 t99 (.bool false)) h fun t100 h =>
 aL (fun (J10 : AV → AV → List AObj → Prop) =>
 bC t100 true
 (runD (aC aU t12 5) h fun t102 h =>
 runD (fitD cH (aD h t102)) h fun t103 h =>
 runD (aC aU t13 5) h fun t104 h =>
 runD (fitD cH (aD h t104)) h fun t105 h =>
 runD (binD cH .eql t103 t105) h fun t106 h =>
 J10 (.bool true) t106 h)
 (J10 (.bool false) .und h))
 (fun t101 t106 h => runD (bS t101 t106 (.bool false)) h fun t107 h =>
 aL (fun (J11 : AV → AV → List AObj → Prop) =>
 bC t107 true
 (runD (aC aU t12 1) h fun t109 h =>
 runD (fitD aB (aD h t109)) h fun t110 h =>
 runD (aC aU t13 1) h fun t111 h =>
 runD (fitD aB (aD h t111)) h fun t112 h =>
 runD (binD aB .eql t110 t112) h fun t113 h =>
 J11 (.bool true) t113 h)
 (J11 (.bool false) .und h))
 (fun t108 t113 h => runD (bS t108 t113 (.bool false)) h fun t114 h =>
 K (.ret t114) h)))))
 (fun v h => K (.pan v) h))
 (fun v h => K (.pan v) h)))
 (fun v h => K (.pan v) h)))))))))
 (fun v h => K (.pan v) h)
theorem dT.eq (F : List (FuncId × aE)) (S : List (FuncId × Con)) (t0 t1 t2 : AV) (h : List AObj) (K : AOut → List AObj → Prop) : funW (ctx F S dT.loops) Tryz.f5 [t0, t1, t2] h K = dT.H (ctx F S dT.loops) t0 t1 t2 h K := by kernel_rfl
end Lam
namespace Lam
open Go Go.Proofs
abbrev qH : Ctx := ctx [(11, cF.C), (22, fC.C), (23, cA.C), (24, eF.C), (25, cG.C)] [] dT.loops
set_option maxHeartbeats 1000000 in
theorem aGY (words : List Int) (key : aY) (turns : List Int) (w_words : wfL (.ints .i64 words)) (n_words : words.length ≤ maxLen) (w_turns : wfL (.ints .u8 turns)) (n_turns : turns.length ≤ maxLen) : dT.H qH (.sl false (.ints .i64 words)) (.str key) (.sl false (.ints .u8 turns)) [] Told := by
  unfold dT.H
  simp (maxSteps := 4000000) only [go_sem, reduceEqDiff, Nat.reduceLT, reduceAdd, reduceSub, reduceLeDiff, reduceReplicate, reduceToNat, cF.C, fC.C, cA.C, eF.C, cG.C]
  have hi := aNj w_words
  have hu : ∀ x ∈ turns, 0 ≤ x ∧ x < 256 := fun x hx => aSs (w_turns x hx)
  have hs : ¬ 1000 < (words.length : Int) → iL words := fun h => ⟨by omega, hi⟩
  refine ⟨fun _ => by decide, fun h => ?_, fun h => ?_, fun _ => rfl, fun hg => ?_⟩
  · simp only [Bool.or_eq_false_iff, decide_eq_false_iff_not] at h
    exact hs h.1.1.1.1
  · simp only [Bool.or_eq_false_iff, decide_eq_false_iff_not] at h
    exact hs h.1.1.1.1.1
  simp only [Bool.or_eq_false_iff, decide_eq_false_iff_not, Bool.not_eq_false', decide_eq_true_eq] at hg
  obtain ⟨⟨⟨⟨⟨⟨g1, g2⟩, g3⟩, g4⟩, g5⟩, g6⟩, g7⟩ := hg
  have hS := hs g1
  have hw : words.length ≤ 1000 := by omega
  have h16 : words.length % 16 = 0 := by rw [Int.tmod_eq_emod_of_nonneg (by omega)] at g2; omega
  have hr := iL.roomy hS
  obtain ⟨l, hl, hch, hlv⟩ := aJG g6
  have hll := (kW hch).2.2.2.1
  have hrng := (kW hch).2.2.1
  have hleaves : pH words = .tup [.sl false (.ints .i64 l), .int .i64 0] := by unfold pH; rw [hch]
  refine ⟨hS, ?_⟩
  have hpos : 0 < words.length := by
    have : 1 ≤ l.length := by
      obtain ⟨r, hr⟩ := (kW hch).2.2.2.2.1
      rw [hr]; simp
    omega
  simp only [hleaves, hpos, aA, aA, gq, reduceEq, reduceLT, reduceLE, implies_true, reduceCtorEq, if_true, if_false, go_sem, reduceEqDiff, Nat.reduceLT, reduceAdd, reduceSub, reduceLeDiff, reduceReplicate, reduceToNat]
  refine ⟨hr, ?_⟩
  unfold dT.L1
  refine lP (σ := Nat × List Int) (fun s => .int .i64 s.1) (fun s => [.row .own 0 (.ints .i64 []), .row .own 0 (.ints .i64 s.2)]) (fun s => l.length - s.1) (fun s => s.1 ≤ l.length ∧ tR (l.take s.1) words s.2 ∧ i64s s.2) (0, words) rfl rfl ⟨Nat.zero_le _, by rw [List.take_zero]; exact aJN _, hi⟩ ?_
  rintro I back ⟨k, x⟩ ⟨hk, ht, hx⟩
  simp only at hk ht hx ⊢
  by_cases hkl : k < l.length
  · have d1 : decide ((k : Int) < (l.length : Int)) = true := decide_eq_true (by omega)
    have hxl := ht.len
    have hm := hrng _ (kB l k 0 hkl)
    have hlt : k % turns.length < turns.length := Nat.mod_lt _ (by omega)
    have hmod : ((k : Int)).tmod (turns.length : Int) = ((k % turns.length : Nat) : Int) := by rw [Int.tmod_eq_emod_of_nonneg (by omega)]; rfl
    have htu := hu _ (kB turns (k % turns.length) 0 hlt)
    have hb : ∀ x', _ := fun x' => @back (l.length - k) _ _ (k + 1, x') (by simp only; omega) rfl rfl
    clear back
    have hnx := aHR ht (b := l.getD k 0) (t := turns.getD (k % turns.length) 0) hm.1 (by omega) htu.1 (by omega)
    rw [← iG l k 0 hkl] at hnx
    have hix : i64s (x.set (16 * (l.getD k 0).toNat) (1152921504606846976 + 16 * turns.getD (k % turns.length) 0)) := fun y hy => by
      rcases List.mem_or_eq_of_mem_set hy with h | h
      · exact hx y h
      · rw [h]; omega
    have hb := hb _ ⟨by simp only; omega, hnx, hix⟩
    simp only [d1, hmod, aA, Int.toNat_natCast, fA (show k < 4611686018427387904 by omega), aA, gq, reduceEq, reduceLT, reduceLE, implies_true, reduceCtorEq, if_true, if_false, go_sem, reduceEqDiff, Nat.reduceLT, reduceAdd, reduceSub, reduceLeDiff, reduceReplicate, reduceToNat]
    generalize turns.getD (k % turns.length) 0 = t at *
    generalize l.getD k 0 = b at *
    have e1 : IntKind.i64.wrap (16 * b) = ((16 * b.toNat : Nat) : Int) := by rw [w64 (by omega) (by omega)]; omega
    have e2 : IntKind.i64.wrap t = t := w64 (by omega) (by omega)
    have e3 : IntKind.i64.wrap (16 * t) = 16 * t := w64 (by omega) (by omega)
    have e4 : IntKind.i64.wrap (1152921504606846976 + 16 * t) = 1152921504606846976 + 16 * t := w64 (by omega) (by omega)
    rw [e1, e2, e3, e4, Int.toNat_natCast]
    exact ⟨⟨by omega, by omega⟩, by omega, ⟨by omega, by omega⟩, ⟨by omega, by omega⟩, by omega, hb⟩
  · obtain rfl : k = l.length := by omega
    have d1 : decide ((l.length : Int) < (l.length : Int)) = false := decide_eq_false (by omega)
    clear back
    rw [List.take_length] at ht
    have hxl := ht.len
    have hnz := aLf hch
    have hlev : ∀ y ∈ l, 0 ≤ y ∧ ∃ n, cR words y = some n ∧ n.level = 0 := fun y hy => ⟨(hrng y hy).1, (kW hch).2.2.2.2.2 y hy⟩
    have hrec := aJO ht hlev
    have hnod := aHT ht hlev
    have hold : ∀ j, j < 16 → x.getD j 0 = words.getD j 0 := fun j hj => ht.old j fun c hc e => by
      have := hrng c hc
      have := hnz c hc
      omega
    have hrb : eC x = eC words := by
      have hd : (x.drop 4).take 12 = (words.drop 4).take 12 := by
        refine aMG 0 (by simp [hxl]) fun i hi => ?_
        rw [List.length_take] at hi
        rw [tH, tH, if_pos (by omega), if_pos (by omega), tI, tI]
        exact hold _ (by omega)
      unfold eC aFz
      rw [hd, hxl, hold 0 (by omega), hold 1 (by omega), hold 2 (by omega), hold 3 (by omega)]
    have hl' : iI (eC x) x = some l := by rw [aLp hrec hnod hxl hrb]; exact hl
    have hck : rR x = 0 := by unfold rR; rw [hl']; rfl
    have hla : rV x key ≠ 0 := by
      have : rV x key = rV words key := by
        unfold rV pJ
        rw [(pI hl').1, hch, hrb, hold 3 (by omega), aFa hrec hnod]
      rw [this]; exact g7
    have hall := aMt hrec hnod l
    have hsame : ∃ a c d s1 s2 s3 s4 s5 p v f a' c' d' r1 r2 r3 r4 r5, uU words key = ⟨a, p, c, d, ⟨s1, s2, s3, s4, s5⟩, v, f⟩ ∧ uU x key = ⟨a', p, c', d', ⟨r1, r2, r3, r4, r5⟩, v, f⟩ := by
      by_cases hk : key ≠ [] ∧ key.length ≤ 21
      · obtain ⟨a, c, d, ⟨s1, s2, s3, s4, s5⟩, h⟩ := aIx hw hl hk g7
        obtain ⟨a', c', d', ⟨r1, r2, r3, r4, r5⟩, h'⟩ := aIx (w := x) (by omega) hl' hk hla
        rw [hall] at h'
        exact ⟨a, c, d, s1, s2, s3, s4, s5, 8, _, _, a', c', d', r1, r2, r3, r4, r5, h, h'⟩
      · rw [aGX hk, aGX hk]
        exact ⟨_, _, _, _, _, _, _, _, _, _, _, _, _, _, _, _, _, _, _, rfl, rfl⟩
    obtain ⟨a, c, d, s1, s2, s3, s4, s5, p, v, f, a', c', d', r1, r2, r3, r4, r5, x1, x2⟩ := hsame
    have htk : x.take words.length = x := List.take_of_length_le (by omega)
    have hle : words.length ≤ x.length := by omega
    simp only [cG.C, fC.C, x1, x2, Rd.V, Sk.V, htk, hle, hck, d1, aA, aA, gq, reduceEq, reduceLT, reduceLE, implies_true, reduceCtorEq, if_true, if_false, go_sem, reduceEqDiff, Nat.reduceLT, reduceAdd, reduceSub, reduceLeDiff, reduceReplicate, reduceToNat]
    exact ⟨⟨hw, h16, hi⟩, ⟨by omega, by omega, hx⟩, ⟨by omega, hx⟩, rfl⟩
theorem ReadTurns_ok : Ok Tryz.prog qH := bP (by simpa using ⟨cF.spec, fC.spec, cA.spec, eF.spec, cG.spec⟩) (by simp) _
theorem ReadTurns_law (words : Lst) (key : aY) (turns : Lst) (k_words : words.kind = (.int .i64)) (w_words : wfL words) (n_words : words.len ≤ maxLen) (k_turns : turns.kind = (.int .u8)) (w_turns : wfL turns) (n_turns : turns.len ≤ maxLen) : funW qH Tryz.f5 [(.sl false words), (.str key), (.sl false turns)] [] Told := by
  obtain ⟨words, rfl⟩ := aDh k_words
  obtain ⟨turns, rfl⟩ := aDh k_turns
  rw [qH, dT.eq]
  exact aGY words key turns w_words n_words w_turns n_turns
end Lam
