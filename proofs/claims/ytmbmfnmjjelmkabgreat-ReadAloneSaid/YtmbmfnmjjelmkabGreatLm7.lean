/- What functions of the program come to, each proved from its code. -/
import Derived.Test.YtmbmfnmjjelmkabGreatLm6
set_option linter.unusedVariables false
set_option linter.unusedSimpArgs false
set_option linter.unnecessarySimpa false
set_option linter.unusedSectionVars false
open Nat (reduceEqDiff reduceAdd reduceSub reduceLeDiff)
open Int (reduceToNat reduceEq reduceLE reduceLT)
open List (reduceReplicate)
set_option maxRecDepth 20000
namespace Lam
open Go
def seeR (refs : List Int) (W : Int) : List Int := if 0 < W ∧ refs.getLast? ≠ some W then refs ++ [W] else refs
theorem aKS (l : List Int) (W : Int) : (decide (l.length = 0) || !decide (l.getD (l.length - 1) 0 = W)) = decide (l.getLast? ≠ some W) := by
  cases l with
  | nil => simp
  | cons a r =>
    rw [List.getLast?_eq_getElem?, List.getD_eq_getElem?_getD]
    have h : (a :: r).length - 1 < (a :: r).length := by simp
    rw [List.getElem?_eq_getElem h]
    simp
theorem aER (W : Int) (s : Sk) : (goOn W s).refs = seeR s.refs W := by
  unfold goOn seeR
  simp only [aKS]
  by_cases h : 0 < W ∧ s.refs.getLast? ≠ some W
  · rw [if_pos h, if_pos (by simp only [Bool.and_eq_true, decide_eq_true_eq]; exact h)]
  · rw [if_neg h, if_neg (by simp only [Bool.and_eq_true, decide_eq_true_eq]; exact h)]
def InW (w : List Int) (b : Int) : Prop := 0 ≤ b ∧ b < 256 ∧ b < ((w.length / 16 : Nat) : Int)
def mY (w : List Int) (b : Int) (k : Nat) : Int := w.getD ((16 * b).toNat + 3 + k) 0
theorem aGH {w : List Int} {b t : Int} {k : Nat} {refs : List Int} (h : InW w b) (hk : k < 13) : lC w ⟨b, t, k, refs, false⟩ = goOn (mY w b k) ⟨b, t, k, refs, false⟩ := by
  obtain ⟨h0, h1, h2⟩ := h
  have hs : mW w ⟨b, t, k, refs, false⟩ = 16 * b + 3 + k := by
    unfold mW
    rw [if_pos (by simp only [Bool.and_eq_true, decide_eq_true_eq]; exact ⟨⟨h0, h1⟩, h2⟩)]
    show pF (16 * b) k = _
    exact aGo ((yZ (by omega)).2 ⟨by omega, by omega, by omega⟩) (by omega) (by show (0 : Int) ≤ k; omega) (by show (k : Int) < 13; omega)
  unfold lC mY
  rw [hs, decide_eq_false (by omega), if_neg (show ¬ (false || false) = true by decide)]
  rw [show (16 * b + 3 + (k : Int)).toNat = (16 * b).toNat + 3 + k by omega]
theorem aDy {w : List Int} {s : Sk} (h : s.over = true) : lC w s = s := by unfold lC; rw [h]; rfl
theorem aLX {w : List Int} {b t : Int} {k : Nat} {refs : List Int} (h : InW w b) (hk : k < 13) (hd : mI t = false) :
    lC w ⟨b, t, k, refs, false⟩ = if mY w b k < 1 ∨ k = 12 then ⟨b, t, k, seeR refs (mY w b k), true⟩ else ⟨b, t, (k + 1 : Nat), seeR refs (mY w b k), false⟩ := by
  rw [aGH h hk]
  have hr := aER (mY w b k) ⟨b, t, k, refs, false⟩
  have ho : kM (mY w b k) ⟨b, t, k, refs, false⟩ = decide (mY w b k < 1 ∨ k = 12) := by
    unfold kM
    simp only [hd]
    rw [if_neg (by decide)]
    rw [show decide ((k : Int) = 12) = decide (k = 12) from decide_eq_decide.2 (by omega)]
    by_cases h1 : mY w b k < 1 <;> by_cases h2 : k = 12 <;> simp [h1, h2]
  unfold goOn at hr ⊢
  simp only at hr
  rw [ho]
  simp only [hr]
  by_cases hc : mY w b k < 1 ∨ k = 12
  · rw [if_pos hc, decide_eq_true hc]; simp
  · rw [if_neg hc, decide_eq_false hc]
    simp only [hd]
    rw [if_neg (by decide), if_neg (by decide), eQ (by omega)]
theorem aJt {w : List Int} {b t : Int} {k : Nat} {refs : List Int} (h : InW w b) (hk : k < 13) (hd : mI t = true) :
    lC w ⟨b, t, k, refs, false⟩ = if k = 0 then ⟨b, t, k, seeR refs (mY w b k), true⟩ else ⟨b, t, (k - 1 : Nat), seeR refs (mY w b k), false⟩ := by
  rw [aGH h hk]
  have hr := aER (mY w b k) ⟨b, t, k, refs, false⟩
  have ho : kM (mY w b k) ⟨b, t, k, refs, false⟩ = decide (k = 0) := by
    unfold kM
    simp only [hd, if_true]
    exact decide_eq_decide.2 (by omega)
  unfold goOn at hr ⊢
  simp only at hr
  rw [ho]
  simp only [hr]
  by_cases hc : k = 0
  · rw [if_pos hc, decide_eq_true hc]; simp
  · rw [if_neg hc, decide_eq_false hc]
    simp only [hd, if_true]
    rw [if_neg (by decide)]
    rw [show IntKind.i64.wrap ((k : Int) - 1) = ((k - 1 : Nat) : Int) by rw [w64 (by omega) (by omega)]; omega]
theorem zT : ∀ l : List Int, (plain l).getLast? = l.getLast?
  | [] => rfl
  | [a] => rfl
  | a :: b :: r => by
    have ih := zT (b :: r)
    simp only [plain]
    split
    · rw [ih]; simp
    · rw [List.getLast?_cons, ih, List.getLast?_cons (a := a), List.getLast?_cons (a := b)]
theorem aDz {l : List Int} {W : Int} (h : 0 < W) : seeR (plain l) W = plain (l ++ [W]) := by
  unfold seeR
  rw [uT, zT]
  by_cases e : l.getLast? = some W
  · rw [if_pos e, if_neg (fun h => h.2 e)]
  · rw [if_neg e, if_pos ⟨h, e⟩]
theorem aES {l : List Int} {W : Int} (h : ¬ 0 < W) : seeR l W = l := by unfold seeR; rw [if_neg (fun h' => h h'.1)]
theorem aJu (a : Int) (l : List Int) : plain (a :: l) = if l.head? = some a then plain l else a :: plain l := by
  cases l with
  | nil => rfl
  | cons b r =>
    have h : ((b :: r).head? = some a) ↔ a = b := by rw [List.head?_cons]; exact ⟨fun h => by cases h; rfl, fun h => by rw [h]⟩
    by_cases e : a = b
    · rw [if_pos (h.2 e)]; simp only [plain, if_pos e]
    · rw [if_neg (fun h' => e (h.1 h'))]; simp only [plain, if_neg e]
theorem aET : ∀ l : List Int, plain l.reverse = (plain l).reverse
  | [] => rfl
  | a :: l => by
    rw [List.reverse_cons, uT, aJu, aET l, List.getLast?_reverse]
    split
    · rfl
    · rw [List.reverse_cons]
def aDY (w : List Int) (b : Int) (l : List Int) : Prop := InW w b ∧ l.length ≤ 13 ∧ (∀ x ∈ l, 0 < x) ∧ ∀ k, k < 13 → mY w b k = l.getD k 0
def upAt (b t : Int) (l : List Int) (k : Nat) : Sk := if k ≤ min l.length 12 then ⟨b, t, k, plain (l.take k), false⟩ else ⟨b, t, (min l.length 12 : Nat), plain l, true⟩
theorem aNc {w : List Int} {b t : Int} {l : List Int} (h : aDY w b l) (hd : mI t = false) (k : Nat) : lC w (upAt b t l k) = upAt b t l (k + 1) := by
  obtain ⟨hin, hl, hpos, hs⟩ := h
  unfold upAt
  by_cases hk : k ≤ min l.length 12
  · have hk13 : k < 13 := by omega
    rw [if_pos hk, aLX hin hk13 hd, hs k hk13]
    by_cases hkl : k < l.length
    · have hp := hpos _ (lN l k 0 hkl)
      rw [aDz hp, ← iK l k 0 hkl]
      by_cases h12 : k = 12
      · rw [if_pos (.inr h12), if_neg (by omega)]
        rw [show min l.length 12 = k by omega, List.take_of_length_le (by omega)]
      · rw [if_neg (by omega), if_pos (by omega)]
    · obtain rfl : k = l.length := by omega
      have h0 : l.getD l.length 0 = 0 := by rw [List.getD_eq_getElem?_getD, List.getElem?_eq_none (Nat.le_refl _)]; rfl
      rw [h0, aES (by decide), if_pos (.inl (by decide)), if_neg (by omega), List.take_length]
      rw [show min l.length 12 = l.length by omega]
  · rw [if_neg hk, if_neg (by omega), aDy rfl]
def yG (b t : Int) (l : List Int) (k : Nat) : Sk := if k ≤ 12 then ⟨b, t, (12 - k : Nat), plain (l.drop (13 - k)).reverse, false⟩ else ⟨b, t, 0, plain l.reverse, true⟩
theorem aKT {w : List Int} {b t : Int} {l : List Int} (h : aDY w b l) (hd : mI t = true) (k : Nat) : lC w (yG b t l k) = yG b t l (k + 1) := by
  obtain ⟨hin, hl, hpos, hs⟩ := h
  unfold yG
  by_cases hk : k ≤ 12
  · have hk13 : 12 - k < 13 := by omega
    have hsee : seeR (plain (l.drop (13 - k)).reverse) (l.getD (12 - k) 0) = plain (l.drop (12 - k)).reverse := by
      by_cases hkl : 12 - k < l.length
      · rw [aDz (hpos _ (lN l _ 0 hkl)), wL l (12 - k) 0 hkl, List.reverse_cons, show 13 - k = 12 - k + 1 by omega]
      · rw [List.getD_eq_getElem?_getD, List.getElem?_eq_none (by omega), aES (by decide), List.drop_of_length_le (by omega), List.drop_of_length_le (by omega)]
    rw [if_pos hk, aJt hin hk13 hd, hs _ hk13, hsee]
    by_cases h12 : k = 12
    · subst h12
      rw [if_pos (by decide), if_neg (by decide)]
      rfl
    · rw [if_neg (by omega), if_pos (by omega)]
      rw [show 12 - k - 1 = 12 - (k + 1) by omega, show 12 - k = 13 - (k + 1) by omega]
  · rw [if_neg hk, if_neg (by omega), aDy rfl]
end Lam
namespace Lam
open Go
def recZ (w : List Int) (s : Int) : Rc := (recO w s).getD ⟨0, [], [], 0⟩
def lowZ (w : List Int) (b : Int) : bE := ((dL w b).bind (lowO w)).getD []
def oC (w : List Int) (b : Int) : Nd := (dL w b).getD ⟨0, 0, 0, 0, []⟩
def ownB (w : List Int) (n : Nd) (x : Rc) : Bool := decide (n.next = 0) || ltB x.key (lowZ w n.next)
def ownL (w : List Int) (n : Nd) : List Rc := ((plain n.slots).map (recZ w)).takeWhile (ownB w n)
def nM (x : Rc) : nB := ⟨x.key, x.val⟩
def ownP (w : List Int) (b : Int) : List nB := (ownL w (oC w b)).map nM
def allP (w : List Int) (l : List Int) : List nB := l.flatMap (ownP w)
theorem aIh {α : Type} (p : α → Bool) (d : α) : ∀ (L : List α) (j : Nat), j ≤ L.length → (∀ i, i < j → p (L.getD i d) = true) → (j < L.length → p (L.getD j d) = false) → L.takeWhile p = L.take j
  | [], j, h, _, _ => by simp
  | a :: L, 0, _, _, h => by
    have := h (by simp)
    rw [List.takeWhile_cons, show p a = false from this]; rfl
  | a :: L, j + 1, h1, h2, h3 => by
    have h0 := h2 0 (by omega)
    rw [List.takeWhile_cons, show p a = true from h0, if_pos rfl, aIh p d L j (by simp at h1; omega) (fun i hi => h2 (i + 1) (by omega)) (fun hj => h3 (by simp; omega))]
    rfl
end Lam
namespace Lam
open Go
theorem aBJ {w : List Int} {low : bE} : ∀ {l : List Int} {k : Nat} {last : bE}, lQ w low l k last = true → ∀ s ∈ l, ∃ x, recO w s = some x ∧ x.kind = 1
  | [], _, _, _, s, hs => by cases hs
  | a :: r, k, last, h, s, hs => by
    simp only [lQ] at h
    cases hx : recO w a with
    | none => rw [hx] at h; cases h
    | some x =>
      rw [hx] at h
      simp only [Bool.and_eq_true, decide_eq_true_eq] at h
      rcases List.mem_cons.1 hs with rfl | hs
      · exact ⟨x, hx, h.1.1.1⟩
      · exact aBJ h.2 s hs
theorem aJv {w : List Int} {i : Nat} {last low : bE} {b : Int} (h : nG w i last b = some low) : ∃ n, dL w b = some n ∧ lowO w n = some low ∧ lQ w low (plain n.slots) 0 low = true := by
  unfold nG at h
  cases hn : dL w b with
  | none => rw [hn] at h; cases h
  | some n =>
    rw [hn] at h
    simp only at h
    cases hw : lowO w n with
    | none => rw [hw] at h; cases h
    | some lo =>
      rw [hw] at h
      simp only at h
      split at h
      rotate_left
      · cases h
      rename_i hc
      cases h
      simp only [Bool.and_eq_true] at hc
      exact ⟨n, rfl, hw, hc.2⟩
end Lam
namespace Lam
open Go
theorem wA {w : List Int} {b : Int} {n : Nd} (h : dL w b = some n) (hb : b < 256) : aDY w b n.slots := by
  obtain ⟨hok, h0, h1, hr⟩ := lW h
  have hw := (aDo hr).2
  have h13 := hok.2.2.2.2.2.2.1
  refine ⟨⟨h0, hb, h1⟩, h13, fun x hx => by have := hok.2.2.2.2.2.2.2 x hx; omega, fun k hk => ?_⟩
  have e1 : mY w b k = (kX w b.toNat).getD (k + 1 + 1 + 1) 0 := by
    unfold mY kX
    rw [aKu, if_pos (by omega), aKv]
    congr 1; omega
  rw [e1, ← hw]
  unfold gR
  rw [List.getD_cons_succ, List.getD_cons_succ, List.getD_cons_succ]
  rcases Nat.lt_or_ge k n.slots.length with h1 | h1
  · rw [List.getD_eq_getElem?_getD, List.getElem?_append_left h1, ← List.getD_eq_getElem?_getD]
  · rw [List.getD_eq_getElem?_getD, List.getElem?_append_right h1, List.getD_eq_getElem?_getD, List.getElem?_eq_none h1, List.getElem?_replicate]
    split <;> rfl
def aGI (w : List Int) (s : Sk) : Nat → Sk
  | 0 => s
  | k + 1 => lC w (aGI w s k)
def lE (b : Int) (n : Nd) (k : Nat) : Sk := if mI n.turn = true then yG b n.turn n.slots k else upAt b n.turn n.slots k
theorem qL {w : List Int} {b : Int} {n : Nd} (h : dL w b = some n) (hb : b < 256) : ∀ k, aGI w (lE b n 0) k = lE b n k
  | 0 => rfl
  | k + 1 => by
    unfold aGI
    rw [qL h hb k]
    unfold lE
    cases hd : mI n.turn with
    | true => exact aKT (wA h hb) hd k
    | false => exact aNc (wA h hb) hd k
theorem aKU {b : Int} {n : Nd} (h13 : n.slots.length ≤ 13) : ∃ a R, lE b n 13 = ⟨b, n.turn, a, R, true⟩ ∧ (R = plain n.slots ∨ R = (plain n.slots).reverse) := by
  unfold lE
  by_cases hd : mI n.turn = true
  · rw [if_pos hd]
    exact ⟨_, _, rfl, .inr (aET _)⟩
  · rw [if_neg hd]
    unfold upAt
    rw [if_neg (by omega)]
    exact ⟨_, _, rfl, .inl rfl⟩
def recT (w : List Int) (s : Int) : RecT := rcT ((recO w s).getD kI)
theorem zG {w : List Int} {low : bE} : ∀ {l : List Int} {k : Nat} {last : bE}, lQ w low l k last = true → (l.map (recT w)).Pairwise ltR ∧ (k ≠ 0 → ∀ s ∈ l, ltB last (recT w s).key = true)
  | [], _, _, _ => ⟨List.Pairwise.nil, fun _ s hs => by cases hs⟩
  | a :: r, k, last, h => by
    simp only [lQ] at h
    cases hx : recO w a with
    | none => rw [hx] at h; cases h
    | some x =>
      rw [hx] at h
      simp only [Bool.and_eq_true, Bool.or_eq_true, decide_eq_true_eq] at h
      obtain ⟨⟨_, hk⟩, hr⟩ := h
      have ex : recT w a = rcT x := by unfold recT; rw [hx]; rfl
      obtain ⟨h1, h2⟩ := zG hr
      have h2 := h2 (by omega)
      have hstep : ∀ s ∈ r, ltB x.key (recT w s).key = true ∧ (ltB last x.key = true → ltB last (recT w s).key = true) := by
        intro s hs
        have := h2 s hs
        by_cases hl : ltB last x.key = true
        · rw [if_pos hl] at this
          exact ⟨this, fun h => lZ h this⟩
        · rw [if_neg hl] at this
          have hle : leB x.key last := by unfold leB; simpa using hl
          refine ⟨?_, fun h => absurd h hl⟩
          rcases aBi x.key last with e | e | e
          · exact lZ e this
          · rw [e]; exact this
          · exact absurd e hl
      refine ⟨?_, fun hk0 s hs => ?_⟩
      · rw [List.map_cons, List.pairwise_cons]
        refine ⟨fun y hy => ?_, h1⟩
        obtain ⟨s, hs, rfl⟩ := List.mem_map.1 hy
        unfold ltR
        rw [ex]
        exact (hstep s hs).1
      · have hlt : ltB last x.key = true := by rcases hk with h | h; exact absurd h hk0; exact h
        rcases List.mem_cons.1 hs with rfl | hs
        · rw [ex]; exact hlt
        · exact (hstep s hs).2 hlt
theorem aGJ {w : List Int} : ∀ {l : List Int} {out : List RecT}, (∀ s ∈ l, ∃ x, recO w s = some x) → ((out ++ l.map (recT w)).map (·.key)).Nodup → l.foldl (hitS w) out = out ++ l.map (recT w)
  | [], out, _, _ => by simp
  | a :: r, out, h, hn => by
    obtain ⟨x, hx⟩ := h a (by simp)
    have ex : recT w a = rcT x := by unfold recT; rw [hx]; rfl
    have hni : x.key ∉ out.map (·.key) := by
      intro hm
      rw [List.map_append, List.nodup_append] at hn
      refine hn.2.2 _ hm x.key ?_ rfl
      rw [List.map_map, List.map_cons, List.mem_cons]
      left
      show x.key = (recT w a).key
      rw [ex]; rfl
    have hs : hitS w out a = out ++ [recT w a] := by
      unfold hitS
      rw [hx]
      simp only [hni, if_false, ex]
    rw [List.foldl_cons, hs, aGJ (fun s hs => h s (by simp [hs])) (by simpa using hn)]
    simp
theorem aHH {l : List RecT} (h : l.Pairwise ltR) : (l.map (·.key)).Nodup := by
  unfold List.Nodup
  rw [List.pairwise_map]
  exact h.imp fun {a b} hab e => by unfold ltR at hab; rw [e, vW] at hab; cases hab
theorem aKV {w R L : List Int} (hrec : ∀ s ∈ L, ∃ x, recO w s = some x) (hr : (L.map (recT w)).Pairwise ltR) (hR : R = L ∨ R = L.reverse) : uW (jF w R) = L.map (recT w) := by
  have hp : (R.map (recT w)).Perm (L.map (recT w)) := by
    rcases hR with rfl | rfl
    · exact .refl _
    · exact (List.reverse_perm L).map _
  have hn : ((R.map (recT w)).map (·.key)).Nodup := (hp.map _).nodup_iff.2 (aHH hr)
  have e : jF w R = R.map (recT w) := by
    unfold jF
    rw [aGJ (fun s hs => hrec s (by rcases hR with rfl | rfl; exact hs; exact List.mem_reverse.1 hs)) (by simpa using hn)]
    simp
  rw [e]
  exact aCn (xC hn) hr ((sD _).trans hp)
theorem aBK {w l : List Int} {i : Nat} {last : bE} (hi : i < l.length) (h : lL w (l.drop i) i last = true) : ∃ low, nG w i last (l.getD i 0) = some low ∧ lL w (l.drop (i + 1)) (i + 1) low = true := by
  rw [wL l i 0 hi] at h
  simp only [lL] at h
  split at h
  · cases h
  · rename_i low hl; exact ⟨low, hl, h⟩
theorem wS {w : List Int} {i : Nat} {last : bE} {b : Int} {low : bE} (h : nG w i last b = some low) : (dL w b).bind (lowO w) = some low ∧ ((i = 0 ∧ low = []) ∨ (0 < i ∧ ltB last low = true)) := by
  unfold nG at h
  cases hn : dL w b with
  | none => rw [hn] at h; cases h
  | some n =>
    rw [hn] at h
    simp only at h
    cases hw : lowO w n with
    | none => rw [hw] at h; cases h
    | some lo =>
      rw [hw] at h
      simp only at h
      split at h
      rotate_left
      · cases h
      rename_i hc
      cases h
      refine ⟨hw, ?_⟩
      simp only [Bool.and_eq_true, Bool.or_eq_true, decide_eq_true_eq] at hc
      rcases hc.1 with ⟨h1, h2⟩ | ⟨h1, h2⟩
      · left
        unfold lowO at hw
        rw [if_pos h2] at hw
        cases hw
        exact ⟨h1, rfl⟩
      · exact .inr ⟨h1, h2⟩
theorem aNd (a : bE) : ltB a [] = false := by cases a <;> rfl
theorem uX {w l : List Int} (hl : jD (eV w) w = some l) : lG (eV w) w = some l ∧ lL w l 0 [] = true ∧ eV w = true := by
  unfold jD at hl
  split at hl
  · cases hl
  · rename_i l' hl'
    split at hl
    · rename_i hb; cases hl; exact ⟨hl', hb, (oL hl').1⟩
    · cases hl
def aFx (w : List Int) : Int → List Int → Prop
  | b, [] => b = 0
  | b, x :: r => b ≠ 0 ∧ x = b ∧ ∃ n, dL w b = some n ∧ n.level = 0 ∧ aFx w n.next r
theorem aBL {w : List Int} : ∀ (m : Nat) (b : Int) (out l : List Int), tS w m b out = some l → ∃ r, l = out ++ r ∧ aFx w b r
  | 0, b, out, l, h => by cases h
  | m + 1, b, out, l, h => by
    simp only [tS] at h
    split at h
    · rename_i h0; cases h; exact ⟨[], by simp, h0⟩
    · rename_i h0
      cases hn : dL w b with
      | none => rw [hn] at h; cases h
      | some n =>
        rw [hn] at h
        simp only at h
        split at h
        · rename_i hc
          obtain ⟨r, hr, hl⟩ := aBL m n.next (out ++ [b]) l h
          exact ⟨b :: r, by rw [hr]; simp, h0, rfl, n, hn, hc.1, hl⟩
        · cases h
theorem aGK {w : List Int} : ∀ {b : Int} {l : List Int}, aFx w b l → ∀ {i : Nat}, i < l.length → l.getD i 0 ≠ 0 ∧ ∃ n, dL w (l.getD i 0) = some n ∧ n.level = 0 ∧ n.next = if i + 1 < l.length then l.getD (i + 1) 0 else 0
  | b, [], _, i, hi => absurd hi (Nat.not_lt_zero _)
  | b, x :: r, h, 0, hi => by
    obtain ⟨h0, rfl, n, hn, hl, hk⟩ := h
    refine ⟨h0, n, hn, hl, ?_⟩
    cases r with
    | nil => exact hk
    | cons y r' => exact hk.2.1.symm
  | b, x :: r, h, i + 1, hi => by
    obtain ⟨h0, rfl, n, hn, hl, hk⟩ := h
    obtain ⟨q0, n', q1, q2, q3⟩ := aGK hk (i := i) (by simpa using hi)
    refine ⟨q0, n', q1, q2, ?_⟩
    rw [q3]
    by_cases hc : i + 1 < r.length
    · rw [if_pos hc, if_pos (by simp; omega)]; rfl
    · rw [if_neg hc, if_neg (by simp; omega)]
theorem aIi {w : List Int} {b : Int} {low : bE} (h : (dL w b).bind (lowO w) = some low) : lowZ w b = low := by unfold lowZ; rw [h]; rfl
theorem aIj {w l : List Int} (h : lL w l 0 [] = true) : ∀ i, i < l.length → ∃ last low, nG w i last (l.getD i 0) = some low ∧ lL w (l.drop (i + 1)) (i + 1) low = true ∧ (i = 0 → low = []) ∧ ∀ j, j < i → ltB (lowZ w (l.getD j 0)) low = true
  | 0, hi => by
    obtain ⟨low, h1, h2⟩ := aBK (last := []) hi (by rw [List.drop_zero]; exact h)
    refine ⟨[], low, h1, h2, fun _ => ?_, fun j hj => by omega⟩
    rcases (wS h1).2 with h | h
    · exact h.2
    · omega
  | i + 1, hi => by
    obtain ⟨last, low, h1, h2, h3, h4⟩ := aIj h i (by omega)
    obtain ⟨low', q1, q2⟩ := aBK hi h2
    have hlt : ltB low low' = true := by
      rcases (wS q1).2 with h | h
      · omega
      · exact h.2
    refine ⟨low, low', q1, q2, fun h => by omega, fun j hj => ?_⟩
    by_cases e : j = i
    · rw [e, aIi (wS h1).1]; exact hlt
    · exact lZ (h4 j (by omega)) hlt
theorem qZ {w l : List Int} (h : jD (eV w) w = some l) {i : Nat} (hi : i < l.length) :
    l.getD i 0 ≠ 0 ∧ ∃ n, dL w (l.getD i 0) = some n ∧ n.level = 0 ∧ n.next = (if i + 1 < l.length then l.getD (i + 1) 0 else 0) ∧ lowO w n = some (lowZ w (l.getD i 0)) ∧ lQ w (lowZ w (l.getD i 0)) (plain n.slots) 0 (lowZ w (l.getD i 0)) = true ∧
      (i = 0 → lowZ w (l.getD i 0) = []) ∧ ∀ j, j < i → ltB (lowZ w (l.getD j 0)) (lowZ w (l.getD i 0)) = true := by
  obtain ⟨h1, h2, hrd⟩ := uX h
  have hlk : aFx w 1 l := by
    unfold lG at h1
    rw [if_pos hrd] at h1
    obtain ⟨r, hr, hl⟩ := aBL _ _ _ _ h1
    rw [List.nil_append] at hr
    rw [hr]; exact hl
  obtain ⟨q0, n, q1, q2, q3⟩ := aGK hlk hi
  obtain ⟨last, low, g1, _, g3, g4⟩ := aIj h2 i hi
  have hlow := aIi (wS g1).1
  obtain ⟨n', r1, r2, r3⟩ := aJv g1
  rw [q1] at r1
  cases r1
  rw [hlow]
  exact ⟨q0, n, q1, q2, q3, r2, r3, g3, g4⟩
end Lam
namespace Lam
open Go Go.Proofs
def fN.loops : Nat → bU
 | 6 => ⟨[2, 21], [true, false], [0, 19, 20], [], [], []⟩
 | _ => ⟨[], [], [], [], [], []⟩
def fN.L1 (c : Ctx) (J1 : AV → List AObj → Prop) (K : AOut → List AObj → Prop) (lv : List AV) (h0 : List AObj) (n0 : Nat) (c0 : AV) (c19 : AV) (c20 : AV) : Prop :=
 ∃ I : Nat → List AV → List AObj → Prop, (∃ n, I n lv h0) ∧ ∀ n h, ∀ t2, ∀ t21, I n [t2, t21] h →
 runD (binD aB .lss t21 c20) h fun t22 h =>
 bC t22
 (runD (aG aI h c19 t21) h fun t23 h =>
 runD (fitD aB (aD h t23)) h fun t24 h =>
 aO false c (.fn (.func 52) [] []) [c0, t24] h (fun t28 h =>
 aO false c (.fn (.func 51) [] []) [t2, t28] h (fun t29 h =>
 runD (binD aB .add t21 (.int .i64 1)) h fun t30 h =>
 (∃ m, m < n ∧ I m (AV.norms n0 h [t29, t30]) (cI n0 h)) ∧ AV.norms n0 h [c0, c19, c20] = [c0, c19, c20])
 (fun v h => K (.pan v) h))
 (fun v h => K (.pan v) h))
 (J1 t2 h)
def fN.H (c : Ctx) (t0 : AV) (h : List AObj) (K : AOut → List AObj → Prop) : Prop :=
 aO false c (.fn (.func 22) [] []) [t0] h (fun t10 h =>
 runD (binD cO .neq t10 (.int .i64 0)) h fun t12 h =>
 bC t12
 (K (.ret (.tup [(.sl true (.pairs [])), t10])) h)
 (aO false c (.fn (.func 24) [] []) [t0] h (fun t16 h =>
 runD (aW t16 0) h fun t17 h =>
 runD (aW t16 1) h fun t18 h =>
 runD (lenD aI h t17) h fun t20 h =>
 aL (fun (J1 : AV → List AObj → Prop) =>
 dK [true, false] [(.sl true (.pairs [])), (.int .i64 0)] h fun lv h => fN.L1 c J1 K (AV.norms h.length h lv) (cI h.length h) h.length (AV.norm h.length h t0) (AV.norm h.length h t17) (AV.norm h.length h t20))
 (fun t2 h => K (.ret (.tup [t2, (.int .i64 0)])) h))
 (fun v h => K (.pan v) h)))
 (fun v h => K (.pan v) h)
def iI.loops : Nat → bU
 | _ => ⟨[], [], [], [], [], []⟩
def iI.H (c : Ctx) (t0 : AV) (t1 : AV) (h : List AObj) (K : AOut → List AObj → Prop) : Prop :=
 boxW cB t1 h fun t3 h =>
 aO false c (.fn (.func 54) [] []) [t0, (.fn (.func 55) [] [t3])] h (fun t9 h =>
 runD (lenD iG h t0) h fun t12 h =>
 runD (binD aB .eql t9 t12) h fun t13 h =>
 bC t13
 (K (.ret (.tup [(.str []), (.bool false)])) h)
 (runD (aG iG h t0 t9) h fun t16 h =>
 runD (aC lB t16 1) h fun t17 h =>
 runD (fitD cB (aD h t17)) h fun t18 h =>
 K (.ret (.tup [t18, (.bool true)])) h))
 (fun v h => K (.pan v) h)
def iJ.loops : Nat → bU
 | _ => ⟨[], [], [], [], [], []⟩
def iJ.H (c : Ctx) (t0 : AV) (t1 : AV) (h : List AObj) (K : AOut → List AObj → Prop) : Prop :=
 boxW aI t0 h fun t2 h =>
 boxW aB t1 h fun t3 h =>
 K (.ret (.fn (.func 84) [] [t2, t3])) h
def cR.loops : Nat → bU
 | _ => ⟨[], [], [], [], [], []⟩
def cR.H (c : Ctx) (t0 : AV) (t1 : AV) (h : List AObj) (K : AOut → List AObj → Prop) : Prop :=
 aO false c (.fn (.func 85) [] []) [t0, t1] h (fun t8 h =>
 runD (binD aB .geq t8 (.int .i64 0)) h fun t10 h =>
 bC t10
 (K (.ret t8) h)
 (runD (lenD iG h t0) h fun t13 h =>
 K (.ret t13) h))
 (fun v h => K (.pan v) h)
def fO.loops : Nat → bU
 | _ => ⟨[], [], [], [], [], []⟩
def fO.H (c : Ctx) (t0 : AV) (t1 : AV) (h : List AObj) (K : AOut → List AObj → Prop) : Prop :=
 boxW lB t0 h fun t2 h =>
 runD (aC lB t2 0) h fun t4 h =>
 runD (fitD cB (aD h t4)) h fun t5 h =>
 runD (fitD cB (aD h t1)) h fun t6 h =>
 runD (binD cB .eql t5 t6) h fun t7 h =>
 K (.ret t7) h
def eN.loops : Nat → bU
 | 3 => ⟨[29], [false], [0, 1, 4, 6, 27, 28], [], [], []⟩
 | 6 => ⟨[], [], [], [(4, none), (4, some [42, 46]), (2, none), (8, some [48, 56])], [], []⟩
 | _ => ⟨[], [], [], [], [], []⟩
def eN.L1 (c : Ctx) (J1 : List AObj → Prop) (K : AOut → List AObj → Prop) (lv : List AV) (h0 : List AObj) (n0 : Nat) (c0 : AV) (c1 : AV) (c4 : AV) (c6 : AV) (c27 : AV) (c28 : AV) : Prop :=
 ∃ I : Nat → List AV → List AObj → Prop, (∃ n, I n lv h0) ∧ ∀ n h, ∀ t29, I n [t29] h →
 runD (binD aB .lss t29 c28) h fun t30 h =>
 bC t30
 (runD (aG aI h c27 t29) h fun t31 h =>
 runD (fitD aB (aD h t31)) h fun t32 h =>
 runD (fitD aI (aD h c1)) h fun t34 h =>
 aO false c (.fn (.func 79) [] []) [t34, t32] h (fun t36 h =>
 runD (aW t36 0) h fun t37 h =>
 runD (aW t36 1) h fun t38 h =>
 cV aK h fun t10 h =>
 runH (aT aK h t10 t37) h fun _ h =>
 runD (aC bA c4 2) h fun t39 h =>
 runD (fitD aB (aD h t39)) h fun t40 h =>
 runD (binD aB .neq t40 (.int .i64 0)) h fun t41 h =>
 aL (fun (J2 : AV → AV → List AObj → Prop) =>
 bF t41 true
 (runD (aC aK t10 1) h fun t43 h =>
 runD (fitD cB (aD h t43)) h fun t44 h =>
 runD (binD cB .geq t44 c6) h fun t46 h =>
 J2 (.bool true) t46 h)
 (J2 (.bool false) .und h))
 (fun t42 t46 h => runD (bV t42 t46 (.bool false)) h fun t47 h =>
 aL (fun (J3 : AV → AV → List AObj → Prop) =>
 bF t47 false
 (runD (aC aK t10 1) h fun t50 h =>
 runD (fitD cB (aD h t50)) h fun t51 h =>
 runD (aC aK t10 2) h fun t52 h =>
 runD (fitD cB (aD h t52)) h fun t53 h =>
 runD (hG lB [(0, t51), (1, t53)]) h fun t54 h =>
 aO false c c0 [t54] h (fun t55 h =>
 runD (unD .not t55) h fun t56 h =>
 J3 (.bool false) t56 h)
 (fun v h => K (.pan v) h))
 (J3 (.bool true) .und h))
 (fun t48 t56 h => runD (bV t48 (.bool true) t56) h fun t57 h =>
 bC t57
 (K (.ret (.tup [])) h)
 (runD (binD aB .add t29 (.int .i64 1)) h fun t58 h =>
 (∃ m, m < n ∧ I m (AV.norms n0 h [t58]) (cI n0 h)) ∧ AV.norms n0 h [c0, c1, c4, c6, c27, c28] = [c0, c1, c4, c6, c27, c28]))))
 (fun v h => K (.pan v) h))
 (J1 h)
def eN.H (c : Ctx) (t0 : AV) (t1 : AV) (t2 : AV) (h : List AObj) (K : AOut → List AObj → Prop) : Prop :=
 runD (fitD aI (aD h t1)) h fun t13 h =>
 runD (fitD aB (aD h t2)) h fun t14 h =>
 aO false c (.fn (.func 46) [] []) [t13, t14] h (fun t15 h =>
 runD (aW t15 0) h fun t16 h =>
 runD (aW t15 1) h fun t17 h =>
 cV bA h fun t4 h =>
 runH (aT bA h t4 t16) h fun _ h =>
 runD (fitD aI (aD h t1)) h fun t19 h =>
 runD (aC bA t4 2) h fun t20 h =>
 runD (fitD aB (aD h t20)) h fun t21 h =>
 aO false c (.fn (.func 47) [] []) [t19, t21] h (fun t22 h =>
 runD (aW t22 0) h fun t23 h =>
 runD (aW t22 1) h fun t24 h =>
 runD (aC bA t4 4) h fun t25 h =>
 runD (fitD aI (aD h t25)) h fun t26 h =>
 aO false c (.fn (.func 78) [] []) [t26] h (fun t27 h =>
 runD (lenD aI h t27) h fun t28 h =>
 aL (fun (J1 : List AObj → Prop) =>
 dK [false] [(.int .i64 0)] h fun lv h => eN.L1 c J1 K (AV.norms h.length h lv) (cI h.length h) h.length (AV.norm h.length h t0) (AV.norm h.length h t1) (AV.norm h.length h t4) (AV.norm h.length h t23) (AV.norm h.length h t27) (AV.norm h.length h t28))
 (fun h => K (.ret (.tup [])) h))
 (fun v h => K (.pan v) h))
 (fun v h => K (.pan v) h))
 (fun v h => K (.pan v) h)
theorem fN.eq (F : List (FuncId × aE)) (S : List (FuncId × Con)) (t0 : AV) (h : List AObj) (K : AOut → List AObj → Prop) : funW (ctx F S fN.loops) Tryz.f26 [t0] h K = fN.H (ctx F S fN.loops) t0 h K := by kernel_rfl
theorem iI.eq (F : List (FuncId × aE)) (S : List (FuncId × Con)) (t0 t1 : AV) (h : List AObj) (K : AOut → List AObj → Prop) : funW (ctx F S iI.loops) Tryz.f29 [t0, t1] h K = iI.H (ctx F S iI.loops) t0 t1 h K := by kernel_rfl
theorem iJ.eq (F : List (FuncId × aE)) (S : List (FuncId × Con)) (t0 t1 : AV) (h : List AObj) (K : AOut → List AObj → Prop) : funW (ctx F S iJ.loops) Tryz.f52 [t0, t1] h K = iJ.H (ctx F S iJ.loops) t0 t1 h K := by kernel_rfl
theorem cR.eq (F : List (FuncId × aE)) (S : List (FuncId × Con)) (t0 t1 : AV) (h : List AObj) (K : AOut → List AObj → Prop) : funW (ctx F S cR.loops) Tryz.f54 [t0, t1] h K = cR.H (ctx F S cR.loops) t0 t1 h K := by kernel_rfl
theorem fO.eq (F : List (FuncId × aE)) (S : List (FuncId × Con)) (t0 t1 : AV) (h : List AObj) (K : AOut → List AObj → Prop) : funW (ctx F S fO.loops) Tryz.f55 [t0, t1] h K = fO.H (ctx F S fO.loops) t0 t1 h K := by kernel_rfl
theorem eN.eq (F : List (FuncId × aE)) (S : List (FuncId × Con)) (l : Nat) (Y : Con) (t0 t1 t2 : AV) (h : List AObj) (K : AOut → List AObj → Prop) : funW ((ctx F S eN.loops).withY l Y) Tryz.f84 [t0, t1, t2] h K = eN.H ((ctx F S eN.loops).withY l Y) t0 t1 t2 h K := by kernel_rfl
theorem fN.at : Tryz.prog.funcs[26]? = some Tryz.f26 := by kernel_rfl
theorem fN.nm : (Tryz.f26.name == "runtime.NumGoroutine") = false := by kernel_rfl
theorem fN.bd : Tryz.f26.body.isNone = false := by kernel_rfl
theorem iI.at : Tryz.prog.funcs[29]? = some Tryz.f29 := by kernel_rfl
theorem iI.nm : (Tryz.f29.name == "runtime.NumGoroutine") = false := by kernel_rfl
theorem iI.bd : Tryz.f29.body.isNone = false := by kernel_rfl
theorem iJ.at : Tryz.prog.funcs[52]? = some Tryz.f52 := by kernel_rfl
theorem iJ.nm : (Tryz.f52.name == "runtime.NumGoroutine") = false := by kernel_rfl
theorem iJ.bd : Tryz.f52.body.isNone = false := by kernel_rfl
theorem cR.at : Tryz.prog.funcs[54]? = some Tryz.f54 := by kernel_rfl
theorem cR.nm : (Tryz.f54.name == "runtime.NumGoroutine") = false := by kernel_rfl
theorem cR.bd : Tryz.f54.body.isNone = false := by kernel_rfl
theorem fO.at : Tryz.prog.funcs[55]? = some Tryz.f55 := by kernel_rfl
theorem fO.nm : (Tryz.f55.name == "runtime.NumGoroutine") = false := by kernel_rfl
theorem fO.bd : Tryz.f55.body.isNone = false := by kernel_rfl
theorem eN.at : Tryz.prog.funcs[84]? = some Tryz.f84 := by kernel_rfl
theorem eN.nm : (Tryz.f84.name == "runtime.NumGoroutine") = false := by kernel_rfl
theorem eN.bd : Tryz.f84.body.isNone = false := by kernel_rfl
end Lam
namespace Lam
open Go Go.Proofs
def eN.I : Con → Con := fun Y args h K => match args with
  | [.fn (.yield l) [] [], a0, a1] => eN.H ((ctx [(46, cL.C), (47, dH.C), (78, eK.C), (79, dZ.C)] [] eN.loops).withY l Y) (.fn (.yield l) [] []) a0 a1 h K
  | _ => False
theorem eN.spec : tA Tryz.prog 84 eN.I := by
  refine tA.of (bQ (F := [(46, cL.C), (47, dH.C), (78, eK.C), (79, dZ.C)]) (S := []) (by simpa using ⟨cL.spec, dH.spec, eK.spec, dZ.spec⟩) (by simp) eN.loops).toOkI eN.at eN.nm eN.bd ?_
  intro Yc l cap h K hC
  unfold eN.I at hC
  split at hC
  · rename_i e
    simp only [List.cons.injEq, AV.fn.injEq, Fn.yield.injEq, and_true, true_and] at e
    obtain ⟨rfl, rfl⟩ := e
    rw [eN.eq]; exact hC
  · exact hC.elim
def iJ.K : Con := fun args h K => match args with
  | [a0, a1] => iJ.H (ctx [] [] iJ.loops) a0 a1 h K
  | _ => False
theorem iJ.spec : cN Tryz.prog 52 iJ.K := by
  refine cN.of (bQ (F := []) (S := []) (by simp) (by simp) iJ.loops) iJ.at iJ.nm iJ.bd ?_
  intro args h K hC
  unfold iJ.K at hC
  split at hC
  · rw [iJ.eq]; exact hC
  · exact hC.elim
def bD.K : Con := fun args h K => match args with
  | [a0, a1] => bD.H (ctxI [] [] [(84, eN.I)] bD.loops) a0 a1 h K
  | _ => False
theorem bD.spec : cN Tryz.prog 51 bD.K := by
  refine cN.of (aDW (F := []) (S := []) (Is := [(84, eN.I)]) (by simp) (by simp) (by simpa using eN.spec) bD.loops) bD.at bD.nm bD.bd ?_
  intro args h K hC
  unfold bD.K at hC
  split at hC
  · rw [bD.eq]; exact hC
  · exact hC.elim
def yH (w : List Int) : AV := match jD (eV w) w with
  | none => .tup [.sl false (.pairs []), .int .i64 110]
  | some l => .tup [.sl false (.pairs (allP w l)), .int .i64 0]
theorem aLY (w : List Int) (b : Int) : ∃ e, qP w b = .tup [(oC w b).V, .int .i64 e] := by
  unfold oC
  cases hn : dL w b with
  | none =>
    obtain ⟨e, _, hv⟩ := nZ hn
    exact ⟨e, hv⟩
  | some n => exact ⟨0, iV hn⟩
theorem aIk (w : List Int) (b : Int) : ∃ e, lowV w b = .tup [.str (lowZ w b), .int .i64 e] := by
  unfold lowV lowZ
  cases h : (dL w b).bind (lowO w) with
  | none => exact ⟨_, rfl⟩
  | some l => exact ⟨_, rfl⟩
theorem aKW (w : List Int) (s : Int) : ∃ e, pK w s = .tup [(recZ w s).V, .int .i64 e] := by
  unfold recZ
  cases hn : recO w s with
  | none =>
    obtain ⟨e, _, hv⟩ := tD hn
    exact ⟨e, hv⟩
  | some n => exact ⟨0, tC hn⟩
theorem aBM (w : List Int) (b : Int) : (oC w b).slots.length ≤ 13 := by
  unfold oC
  cases hn : dL w b with
  | none => exact Nat.zero_le _
  | some n => exact (lW hn).1.2.2.2.2.2.2.1
theorem aGL {α β : Type} (f : α → β) (L : List α) (d : α) {e : β} {i : Nat} (h : i < L.length) : (L.map f).getD i e = f (L.getD i d) := by
  rw [List.getD_eq_getElem?_getD, List.getElem?_map, List.getElem?_eq_getElem h, List.getD_eq_getElem?_getD, List.getElem?_eq_getElem h]; rfl
theorem aLZ (w : List Int) (b : Int) (out : List nB) (v : Nat) (hw : iH w) (hro : out.length ≤ 100000) (K : AOut → List AObj → Prop)
    (hK : ∀ h' v', K (.ret (.sref false 0 v' 0 (out ++ ownP w b).length)) (.row .own v' (.pairs (out ++ ownP w b)) :: h')) :
    bD.K [.sref false 0 v 0 out.length, .fn (.func 84) [] [.ptr 1 [], .ptr 2 []]] [.row .own v (.pairs out), .box (.sl false (.ints .i64 w)), .box (.int .i64 b)] K := by
  obtain ⟨e1, h1⟩ := aLY w b
  obtain ⟨e2, h2⟩ := aIk w (oC w b).next
  have hr := iH.roomy hw
  unfold bD.K bD.H
  simp only [eN.I, eN.H, cL.C, h1, Nd.V, dH.C, h2, eK.C, aA, aA, gq, reduceEq, reduceLT, reduceLE, implies_true, reduceCtorEq, if_true, if_false, go_sem, reduceEqDiff, Nat.reduceLT, reduceAdd, reduceSub, reduceLeDiff, reduceReplicate, reduceToNat]
  intro lp r
  obtain ⟨⟨n1, n2, n3, n4, n5⟩, hnd⟩ : ∃ n, oC w b = n := ⟨_, rfl⟩
  have hok := aBM w b
  rw [hnd] at hok ⊢
  have hrn : roomy n5.length := by unfold roomy; simp only at hok; omega
  have hpl := Nat.le_trans (wM n5) hok
  have hsl : (plain n5).length ≤ 13 := hpl
  generalize hS : plain n5 = S at *
  have hP : ownP w b = ((S.map (recZ w)).takeWhile (ownB w ⟨n1, n2, n3, n4, n5⟩)).map nM := by
    unfold ownP ownL; rw [hnd, ← hS]
  refine ⟨hr, hw, hrn, ?_⟩
  have hlo : lowZ w (oC w b).next = lowZ w n3 := by rw [hnd]
  simp only
  unfold eN.L1
  refine lA (σ := Nat × Nat) (fun s => .int .i64 s.1) (fun s => [.row .own s.2 (.pairs (out ++ (S.take s.1).map fun s => nM (recZ w s))), .box (.sl false (.ints .i64 w)), .box (.int .i64 b), .box (.sref false 0 s.2 0 (out ++ (S.take s.1).map fun s => nM (recZ w s)).length), .lp .ready none r, .box (.agg [.int .i64 n1, .int .i64 n2, .int .i64 n3, .int .i64 n4, .sl false (.ints .i64 n5)])]) (fun s => S.length - s.1) (fun s => s.1 ≤ S.length ∧ ∀ i, i < s.1 → ownB w ⟨n1, n2, n3, n4, n5⟩ (recZ w (S.getD i 0)) = true) (0, v) rfl (by simp) ⟨Nat.zero_le _, fun i hi => absurd hi (Nat.not_lt_zero _)⟩ ?_
  rintro I back ⟨k, v1⟩ ⟨hk, hall⟩
  simp only at hk hall ⊢
  have htw : (k < S.length → ownB w ⟨n1, n2, n3, n4, n5⟩ (recZ w (S.getD k 0)) = false) → ownP w b = (S.take k).map fun s => nM (recZ w s) := fun h => by
    rw [hP, aIh (ownB w ⟨n1, n2, n3, n4, n5⟩) (recZ w 0) (S.map (recZ w)) k (by simp; exact hk) (fun i hi => ?_) (fun hi => ?_), ← List.map_take, List.map_map]
    · rfl
    · rw [aGL _ _ _ (by omega)]; exact hall i hi
    · rw [List.length_map] at hi
      rw [aGL _ _ _ hi]; exact h hi
  have hlen : (out ++ (S.take k).map fun s => nM (recZ w s)).length ≤ 100013 := by
    rw [List.length_append, List.length_map, List.length_take]; omega
  by_cases hkl : k < S.length
  · have hb : ∀ v2 n lv h, _ := fun v2 n lv h => @back n lv h (k + 1, v2)
    simp only [iK S k 0 hkl, List.map_append, List.map_cons, List.map_nil] at hb
    have d1 : decide ((k : Int) < (S.length : Int)) = true := decide_eq_true (by omega)
    obtain ⟨e3, h3⟩ := aKW w (S.getD k 0)
    have hall2 : ownB w ⟨n1, n2, n3, n4, n5⟩ (recZ w (S.getD k 0)) = true → ∀ i, i < k + 1 → ownB w ⟨n1, n2, n3, n4, n5⟩ (recZ w (S.getD i 0)) = true := fun h i hi => by
      by_cases e : i = k
      · rw [e]; exact h
      · exact hall i (by omega)
    generalize hR : (S.take k).map (fun s => nM (recZ w s)) = R at *
    generalize recZ w (S.getD k 0) = x at *
    obtain ⟨x1, x2, x3, x4⟩ := x
    unfold ownB at htw hall2
    simp only at htw hall2
    have hlp : roomy (out ++ (R ++ [(⟨x2, x3⟩ : nB)])).length := by
      unfold roomy; rw [← List.append_assoc, List.length_append]; simp only [List.length_cons, List.length_nil]; omega
    simp only [dZ.C, h3, Rc.V, d1, aA, eQ (show k < 4611686018427387904 by omega), aA, gq, reduceEq, reduceLT, reduceLE, implies_true, reduceCtorEq, if_true, if_false, go_sem, reduceEqDiff, Nat.reduceLT, reduceAdd, reduceSub, reduceLeDiff, reduceReplicate, reduceToNat]
    refine ⟨⟨by omega, by omega⟩, hr, ?_⟩
    by_cases h0 : n3 = 0
    · simp only [h0, decide_true, aA, gq, reduceEq, reduceLT, reduceLE, implies_true, reduceCtorEq, if_true, if_false, go_sem, reduceEqDiff, Nat.reduceLT, reduceAdd, reduceSub, reduceLeDiff, reduceReplicate, reduceToNat]
      exact ⟨hlp, hb (v1 + 1) _ _ _ (by omega) rfl (by simp only [h0, nM]) ⟨by omega, hall2 (by simp [h0])⟩⟩
    · cases hlt : ltB x2 (lowZ w n3) with
      | true =>
        simp only [h0, hlt, decide_false, aA, gq, reduceEq, reduceLT, reduceLE, implies_true, reduceCtorEq, if_true, if_false, go_sem, reduceEqDiff, Nat.reduceLT, reduceAdd, reduceSub, reduceLeDiff, reduceReplicate, reduceToNat]
        exact ⟨hlp, hb (v1 + 1) _ _ _ (by omega) rfl rfl ⟨by omega, hall2 (by simp [hlt])⟩⟩
      | false =>
        have e := htw (fun _ => by simp [h0, hlt])
        simp only [h0, hlt, decide_false, aA, gq, reduceEq, reduceLT, reduceLE, implies_true, reduceCtorEq, if_true, if_false, go_sem, reduceEqDiff, Nat.reduceLT, reduceAdd, reduceSub, reduceLeDiff, reduceReplicate, reduceToNat]
        rw [← e]
        exact hK _ _
  · obtain rfl : k = S.length := by omega
    have d1 : decide ((S.length : Int) < (S.length : Int)) = false := decide_eq_false (by omega)
    rw [← htw (fun h => absurd h hkl)]
    simp only [d1, aA, aA, gq, reduceEq, reduceLT, reduceLE, implies_true, reduceCtorEq, if_true, if_false, go_sem, reduceEqDiff, Nat.reduceLT, reduceAdd, reduceSub, reduceLeDiff, reduceReplicate, reduceToNat]
    exact hK _ _
theorem aKX {w : List Int} {l : List Int} {k : Nat} (h : k < l.length) : allP w (l.take (k + 1)) = allP w (l.take k) ++ ownP w (l.getD k 0) := by
  unfold allP
  rw [iK l k 0 h, List.flatMap_append, List.flatMap_cons, List.flatMap_nil, List.append_nil]
theorem aMa (w : List Int) (b : Int) : (ownP w b).length ≤ 13 := by
  unfold ownP ownL
  rw [List.length_map]
  refine Nat.le_trans (List.takeWhile_sublist _).length_le ?_
  rw [List.length_map]
  exact Nat.le_trans (wM _) (aBM w b)
theorem aCo (w : List Int) : ∀ l : List Int, (allP w l).length ≤ 13 * l.length
  | [] => Nat.le_refl _
  | b :: l => by
    have h1 := aCo w l
    have h2 := aMa w b
    unfold allP at h1 ⊢
    rw [List.flatMap_cons, List.length_append, List.length_cons]; omega
def fN.C : aE
  | [.sl _ (.ints .i64 w)] => some (false, pD (iH w) (yH w))
  | _ => none
theorem fN.spec : bO Tryz.prog 26 fN.C := by
  refine bO.of (bQ (F := [(22, fV.C), (24, dY.C)]) (S := [(52, iJ.K), (51, bD.K)]) (by simpa using ⟨fV.spec, dY.spec⟩) (by simpa using ⟨iJ.spec, bD.spec⟩) fN.loops) fN.at fN.nm fN.bd ?_
  intro vs b S v news e hS
  unfold fN.C at e
  split at e
  rotate_left
  · cases e
  cases e
  rw [fN.eq]
  unfold fN.H
  simp (maxSteps := 4000000) only [go_sem, reduceEqDiff, Nat.reduceLT, reduceAdd, reduceSub, reduceLeDiff, reduceReplicate, reduceToNat, fV.C, dY.C]
  rename_i w
  unfold yH
  cases hl : jD (eV w) w with
  | none =>
    have hc : sC w = 110 := by unfold sC; rw [hl]; rfl
    simp only [hc, aA, decide_false, aA, gq, reduceEq, reduceLT, reduceLE, implies_true, reduceCtorEq, if_true, if_false, go_sem, reduceEqDiff, Nat.reduceLT, reduceAdd, reduceSub, reduceLeDiff, reduceReplicate, reduceToNat]
    exact ⟨hS, aH rfl rfl⟩
  | some l =>
    have hc : sC w = 0 := by unfold sC; rw [hl]; rfl
    have hch : lG (eV w) w = some l := by
      unfold jD at hl
      cases h : lG (eV w) w with
      | none => rw [h] at hl; cases hl
      | some l' =>
        rw [h] at hl
        simp only at hl
        split at hl
        · cases hl; rfl
        · cases hl
    have hlv : nL w = .tup [.sl false (.ints .i64 l), .int .i64 0] := by unfold nL; rw [hch]
    have hll := (oL hch).2.2.2.1
    have hw := hS.1
    simp only [hc, hlv, aA, decide_true, decide_false, aA, gq, reduceEq, reduceLT, reduceLE, implies_true, reduceCtorEq, if_true, if_false, go_sem, reduceEqDiff, Nat.reduceLT, reduceAdd, reduceSub, reduceLeDiff, reduceReplicate, reduceToNat]
    refine ⟨hS, hS, ?_⟩
    unfold fN.L1
    refine pU (σ := Nat × Nat) (fun s => .sref false 0 s.2 0 (allP w (l.take s.1)).length) (fun s => .int .i64 s.1) (fun s => [.row .own s.2 (.pairs (allP w (l.take s.1)))]) (fun s => l.length - s.1) (fun s => s.1 ≤ l.length) (0, 0) rfl rfl (Nat.zero_le _) ?_
    rintro I back ⟨k, v⟩ hk
    simp only at hk ⊢
    have hal := aCo w (l.take k)
    rw [List.length_take] at hal
    by_cases hkl : k < l.length
    · have hb : ∀ v2 n lv h, _ := fun v2 n lv h => @back n lv h (k + 1, v2)
      simp only [aKX hkl] at hb
      have d1 : decide ((k : Int) < (l.length : Int)) = true := decide_eq_true (by omega)
      simp only [iJ.K, iJ.H, d1, Int.toNat_natCast, aA, eQ (show k < 4611686018427387904 by omega), aA, gq, reduceEq, reduceLT, reduceLE, implies_true, reduceCtorEq, if_true, if_false, go_sem, reduceEqDiff, Nat.reduceLT, reduceAdd, reduceSub, reduceLeDiff, reduceReplicate, reduceToNat]
      refine ⟨⟨by omega, by omega⟩, ?_⟩
      refine aLZ w (l.getD k 0) (allP w (l.take k)) v hS (by omega) _ fun h' v' => ?_
      simp only [eQ (show k < 4611686018427387904 by omega), aA, gq, reduceEq, reduceLT, reduceLE, implies_true, reduceCtorEq, if_true, if_false, go_sem, reduceEqDiff, Nat.reduceLT, reduceAdd, reduceSub, reduceLeDiff, reduceReplicate, reduceToNat]
      exact hb v' _ _ _ (by omega) rfl rfl (by omega)
    · obtain rfl : k = l.length := by omega
      have d1 : decide ((l.length : Int) < (l.length : Int)) = false := decide_eq_false (by omega)
      clear back
      rw [List.take_length]
      simp only [d1, aA, aA, gq, reduceEq, reduceLT, reduceLE, implies_true, reduceCtorEq, if_true, if_false, go_sem, reduceEqDiff, Nat.reduceLT, reduceAdd, reduceSub, reduceLeDiff, reduceReplicate, reduceToNat]
      refine aH ?_ rfl
      simp only [go_sem, reduceEqDiff, Nat.reduceLT, reduceAdd, reduceSub, reduceLeDiff, reduceReplicate, reduceToNat]
def oG (l : List nB) (i : Nat) : nB := l.getD i ⟨[], []⟩
def fO.K : Con := fun args h K => match args with
  | [a0, a1] => fO.H (ctx [] [] fO.loops) a0 a1 h K
  | _ => False
theorem fO.spec : cN Tryz.prog 55 fO.K := by
  refine cN.of (bQ (F := []) (S := []) (by simp) (by simp) fO.loops) fO.at fO.nm fO.bd ?_
  intro args h K hC
  unfold fO.K at hC
  split at hC
  · rw [fO.eq]; exact hC
  · exact hC.elim
def aQ.K : Con := fun args h K => match args with
  | [a0, a1] => aQ.H (ctx [] [(55, fO.K)] aQ.loops) a0 a1 h K
  | _ => False
theorem aQ.spec : cN Tryz.prog 85 aQ.K := by
  refine cN.of (bQ (F := []) (S := [(55, fO.K)]) (by simp) (by simpa using fO.spec) aQ.loops) aQ.at aQ.nm aQ.bd ?_
  intro args h K hC
  unfold aQ.K at hC
  split at hC
  · rw [aQ.eq]; exact hC
  · exact hC.elim
theorem aMb (key : bE) (l : List nB) (hl : roomy l.length) (K : AOut → List AObj → Prop)
    (hK1 : ∀ (k : Nat) (Y : List AObj), k < l.length → (oG l k).key = key → (∀ j, j < k → (oG l j).key ≠ key) → K (.ret (.int .i64 k)) (.box (.str key) :: Y))
    (hK2 : (∀ j, j < l.length → (oG l j).key ≠ key) → K (.ret (.int .i64 (-1))) [.box (.str key)]) :
    aQ.K [.sl false (.pairs l), .fn (.func 55) [] [.ptr 0 []]] [.box (.str key)] K := by
  have hl' := hl
  unfold roomy at hl'
  unfold aQ.K aQ.H
  simp only [aA, aA, gq, reduceEq, reduceLT, reduceLE, implies_true, reduceCtorEq, if_true, if_false, go_sem, reduceEqDiff, Nat.reduceLT, reduceAdd, reduceSub, reduceLeDiff, reduceReplicate, reduceToNat] at hK1 hK2 ⊢
  unfold aQ.L1
  refine lA (σ := Nat) (fun k => .int .i64 k) (fun k => [.box (.str key)]) (fun k => l.length - k) (fun k => k ≤ l.length ∧ ∀ j, j < k → (oG l j).key ≠ key) 0 rfl rfl ⟨Nat.zero_le _, fun j h => by omega⟩ ?_
  rintro I back k ⟨hk, hall⟩
  by_cases hkl : k < l.length
  · have hb := back (k + 1) (n := l.length - k) (by omega) rfl rfl
    have d1 : decide ((k : Int) < (l.length : Int)) = true := decide_eq_true (by omega)
    have e0 : ∀ i, l.getD i ⟨[], []⟩ = oG l i := fun _ => rfl
    simp only [fO.K, fO.H, d1, e0, Int.toNat_natCast, aA, eQ (show k < 4611686018427387904 by omega), aA, gq, reduceEq, reduceLT, reduceLE, implies_true, reduceCtorEq, if_true, if_false, go_sem, reduceEqDiff, Nat.reduceLT, reduceAdd, reduceSub, reduceLeDiff, reduceReplicate, reduceToNat] at hb ⊢
    refine ⟨⟨by omega, by omega⟩, fun h => hK1 k _ hkl h hall, fun h => hb ⟨by omega, fun j hj => ?_⟩⟩
    by_cases e : j = k
    · subst e; exact h
    · exact hall j (by omega)
  · obtain rfl : k = l.length := by omega
    have d1 : decide ((l.length : Int) < (l.length : Int)) = false := decide_eq_false (by omega)
    simp only [d1, aA, aA, gq, reduceEq, reduceLT, reduceLE, implies_true, reduceCtorEq, if_true, if_false, go_sem, reduceEqDiff, Nat.reduceLT, reduceAdd, reduceSub, reduceLeDiff, reduceReplicate, reduceToNat]
    exact hK2 hall
def cR.K : Con := fun args h K => match args with
  | [a0, a1] => cR.H (ctx [] [(85, aQ.K)] cR.loops) a0 a1 h K
  | _ => False
theorem cR.spec : cN Tryz.prog 54 cR.K := by
  refine cN.of (bQ (F := []) (S := [(85, aQ.K)]) (by simp) (by simpa using aQ.spec) cR.loops) cR.at cR.nm cR.bd ?_
  intro args h K hC
  unfold cR.K at hC
  split at hC
  · rw [cR.eq]; exact hC
  · exact hC.elim
def getP (l : List nB) (key : bE) : Option nB := l.find? fun x => decide (x.key = key)
def getV (l : List nB) (key : bE) : AV := match getP l key with
  | none => .tup [.str [], .bool false]
  | some x => .tup [.str x.val, .bool true]
def iI.C : aE
  | [.sl _ (.pairs l), .str key] => some (false, pD (roomy l.length) (getV l key))
  | _ => none
theorem iI.spec : bO Tryz.prog 29 iI.C := by
  refine bO.of (bQ (F := []) (S := [(54, cR.K)]) (by simp) (by simpa using cR.spec) iI.loops) iI.at iI.nm iI.bd ?_
  intro vs b S v news e hS
  unfold iI.C at e
  split at e
  rotate_left
  · cases e
  cases e
  rw [iI.eq]
  unfold iI.H
  simp (maxSteps := 4000000) only [go_sem, reduceEqDiff, Nat.reduceLT, reduceAdd, reduceSub, reduceLeDiff, reduceReplicate, reduceToNat]
  rename_i l key
  have hr := hS
  unfold roomy at hr
  simp only [cR.K, cR.H, aA, aA, gq, reduceEq, reduceLT, reduceLE, implies_true, reduceCtorEq, if_true, if_false, go_sem, reduceEqDiff, Nat.reduceLT, reduceAdd, reduceSub, reduceLeDiff, reduceReplicate, reduceToNat]
  refine aMb key l hS _ (fun k Y hk hky hall => ?_) fun hall => ?_
  · have hf : getP l key = some (oG l k) := by
      unfold getP
      rw [List.find?_eq_some_iff_getElem]
      have e : oG l k = l[k] := by unfold oG; rw [List.getD_eq_getElem?_getD, List.getElem?_eq_getElem hk]; rfl
      refine ⟨decide_eq_true hky, k, hk, e.symm, fun j hj => ?_⟩
      have h1 := hall j hj
      unfold oG at h1
      rw [List.getD_eq_getElem?_getD, List.getElem?_eq_getElem (show j < l.length by omega)] at h1
      simpa using h1
    have hv : getV l key = .tup [.str (oG l k).val, .bool true] := by unfold getV; rw [hf]
    rw [hv]
    have d1 : decide ((0 : Int) ≤ (k : Int)) = true := decide_eq_true (by omega)
    have d2 : decide ((k : Int) = (l.length : Int)) = false := decide_eq_false (by omega)
    have e0 : ∀ i, l.getD i ⟨[], []⟩ = oG l i := fun _ => rfl
    simp only [d1, d2, e0, Int.toNat_natCast, aA, aA, gq, reduceEq, reduceLT, reduceLE, implies_true, reduceCtorEq, if_true, if_false, go_sem, reduceEqDiff, Nat.reduceLT, reduceAdd, reduceSub, reduceLeDiff, reduceReplicate, reduceToNat]
    exact ⟨⟨by omega, by omega⟩, aH rfl rfl⟩
  · have hf : getP l key = none := by
      unfold getP
      rw [List.find?_eq_none]
      intro x hx h
      obtain ⟨j, hj, rfl⟩ := List.getElem_of_mem hx
      refine hall j hj ?_
      unfold oG
      rw [List.getD_eq_getElem?_getD, List.getElem?_eq_getElem hj]
      exact of_decide_eq_true h
    have hv : getV l key = .tup [.str [], .bool false] := by unfold getV; rw [hf]
    rw [hv]
    simp only [decide_true, decide_false, aA, aA, gq, reduceEq, reduceLT, reduceLE, implies_true, reduceCtorEq, if_true, if_false, go_sem, reduceEqDiff, Nat.reduceLT, reduceAdd, reduceSub, reduceLeDiff, reduceReplicate, reduceToNat]
    exact aH rfl rfl
end Lam
namespace Lam
open Go
def iL (w : List Int) (r : Rd) : Rd :=
  if r.phase = 1 then qS w r else if r.phase = 2 then sE w r else if r.phase = 3 then qK w r else if r.phase = 4 then mX w r
  else if r.phase = 5 then { r with block := r.to_, phase := 2 } else if r.phase = 6 then { r with phase := 7 } else if r.phase = 7 then { r with phase := 8 } else r
theorem aHI (w : List Int) (r : Rd) : oB ⟨w, w, []⟩ r = (⟨w, w, []⟩, iL w r) := by
  unfold oB iL
  simp only [aAN]
  split
  · rfl
  split
  · rfl
  split
  · rfl
  split
  · rfl
  split
  · rfl
  split
  · rfl
  split
  · rfl
  · rfl
def seqR (w : List Int) (r : Rd) : Nat → Rd
  | 0 => r
  | k + 1 => iL w (seqR w r k)
theorem sU (w : List Int) (r : Rd) (a : Nat) : ∀ b, seqR w r (a + b) = seqR w (seqR w r a) b
  | 0 => rfl
  | b + 1 => by show iL w (seqR w r (a + b)) = _; rw [sU w r a b]; rfl
theorem aJw {w : List Int} {r : Rd} (h : r.phase = 8) : iL w r = r := by
  unfold iL
  rw [if_neg (by omega), if_neg (by omega), if_neg (by omega), if_neg (by omega), if_neg (by omega), if_neg (by omega), if_neg (by omega)]
theorem aEU {w : List Int} {r : Rd} (h : r.phase = 8) : ∀ k, seqR w r k = r
  | 0 => rfl
  | k + 1 => by show iL w (seqR w r k) = r; rw [aEU h k]; exact aJw h
theorem aDA {w : List Int} {r : Rd} {a b : Nat} (h : (seqR w r a).phase = 8) (hab : a ≤ b) : seqR w r b = seqR w r a := by
  rw [show b = a + (b - a) by omega, sU]; exact aEU h _
theorem aMz {w : List Int} {r : Rd} (h : r.phase = 1) : iL w r = qS w r := by unfold iL; rw [if_pos h]
theorem aSl {w : List Int} {r : Rd} (h : r.phase = 2) : iL w r = sE w r := by unfold iL; rw [if_neg (by omega), if_pos h]
theorem aMA {w : List Int} {r : Rd} (h : r.phase = 3) : iL w r = qK w r := by unfold iL; rw [if_neg (by omega), if_neg (by omega), if_pos h]
theorem aSm {w : List Int} {r : Rd} (h : r.phase = 4) : iL w r = mX w r := by unfold iL; rw [if_neg (by omega), if_neg (by omega), if_neg (by omega), if_pos h]
theorem aSn {w : List Int} {r : Rd} (h : r.phase = 5) : iL w r = { r with block := r.to_, phase := 2 } := by unfold iL; rw [if_neg (by omega), if_neg (by omega), if_neg (by omega), if_neg (by omega), if_pos h]
theorem aSo {w : List Int} {r : Rd} (h : r.phase = 6) : iL w r = { r with phase := 7 } := by unfold iL; rw [if_neg (by omega), if_neg (by omega), if_neg (by omega), if_neg (by omega), if_neg (by omega), if_pos h]
theorem aSp {w : List Int} {r : Rd} (h : r.phase = 7) : iL w r = { r with phase := 8 } := by unfold iL; rw [if_neg (by omega), if_neg (by omega), if_neg (by omega), if_neg (by omega), if_neg (by omega), if_neg (by omega), if_pos h]
/-! ### A look through a leaf -/
theorem aGM {w : List Int} {b : Int} {n : Nd} (h : dL w b = some n) (hb : b < 256) : qJ w b = some (lE b n 0) := by
  obtain ⟨_, h13, _⟩ := wA h hb
  unfold qJ
  rw [h]
  simp only
  rw [if_neg (by omega)]
  unfold lE
  by_cases hd : mI n.turn = true
  · simp only [hd, if_true]
    unfold yG
    rw [if_pos (by decide), List.drop_of_length_le (by omega)]
    rfl
  · rw [show (if mI n.turn = true then (12 : Int) else 0) = 0 from if_neg hd, if_neg hd]
    unfold upAt
    rw [if_pos (by omega)]
    rfl
theorem aJx {b : Int} {n : Nd} (h13 : n.slots.length ≤ 13) : ∃ T, 1 ≤ T ∧ T ≤ 13 ∧ lE b n T = lE b n 13 ∧ ∀ k, k < T → (lE b n k).over = false := by
  unfold lE
  by_cases hd : mI n.turn = true
  · refine ⟨13, by decide, by decide, rfl, fun k hk => ?_⟩
    rw [if_pos hd]; unfold yG; rw [if_pos (by omega)]
  · refine ⟨min n.slots.length 12 + 1, by omega, by omega, ?_, fun k hk => ?_⟩
    · rw [if_neg hd, if_neg hd]; unfold upAt; rw [if_neg (by omega), if_neg (by omega)]
    · rw [if_neg hd]; unfold upAt; rw [if_pos (by omega)]
theorem aDB {w : List Int} {b : Int} {n : Nd} (h : dL w b = some n) (hb : b < 256) (r : Rd) (hp : r.phase = 3) (hs : r.seek = lE b n 0) {T : Nat} (hT : ∀ k, k < T → (lE b n k).over = false) : ∀ k, k < T → seqR w r k = { r with seek := lE b n k }
  | 0, _ => by show r = _; rw [← hs]
  | k + 1, hk => by
    show iL w (seqR w r k) = _
    have ih := aDB h hb r hp hs hT k (by omega)
    rw [ih, aMA (r := { r with seek := lE b n k }) hp]
    unfold qK
    simp only
    have e : lC w (lE b n k) = lE b n (k + 1) := by
      rw [← qL h hb k, ← qL h hb (k + 1)]; rfl
    rw [e, hT (k + 1) hk]
    simp
theorem aKY {w : List Int} {b : Int} {n : Nd} (h : dL w b = some n) (hb : b < 256) (r : Rd) (hp : r.phase = 2) (hblk : r.block = b) : ∃ T, T ≤ 14 ∧ ∃ a R, (R = plain n.slots ∨ R = (plain n.slots).reverse) ∧ seqR w r T = { r with seek := ⟨b, n.turn, a, R, true⟩, phase := 4 } := by
  have h13 := (lW h).1.2.2.2.2.2.2.1
  obtain ⟨T, t1, t2, t3, t4⟩ := aJx (b := b) h13
  obtain ⟨a, R, h1, h2⟩ := aKU (b := b) h13
  refine ⟨1 + T, by omega, a, R, h2, ?_⟩
  rw [sU]
  have e1 : seqR w r 1 = { r with seek := lE b n 0, phase := 3 } := by
    show iL w r = _
    rw [aSl hp]
    unfold sE
    rw [hblk, aGM h hb]
  rw [e1]
  have hk := aDB h hb { r with seek := lE b n 0, phase := 3 } rfl rfl t4 (T - 1) (by omega)
  rw [show T = (T - 1) + 1 by omega]
  show iL w (seqR w _ (T - 1)) = _
  rw [hk, aMA rfl]
  unfold qK
  have e : lC w (lE b n (T - 1)) = lE b n T := by
    rw [← qL h hb (T - 1), ← qL h hb T, show T = (T - 1) + 1 by omega]; rfl
  simp only [e, t3, h1, if_true]
end Lam
namespace Lam
open Go
def aAO (w : List Int) (b : Int) : List RecT := (plain (oC w b).slots).map (recT w)
def mJ (w l : List Int) (i : Nat) : bE := lowZ w (l.getD i 0)
def nN (w : List Int) (b : Int) (key : bE) : Bool × bE := match idxR key (aAO w b) with
  | none => (false, [])
  | some x => (true, x.val)
theorem aNe {w l : List Int} (h : jD (eV w) w = some l) (hN : w.length / 16 ≤ 256) {i : Nat} (hi : i < l.length) (r : Rd) (hp : r.phase = 2) (hblk : r.block = l.getD i 0) :
    ∃ n, n ≤ 17 ∧ (seqR w r n).key = r.key ∧ ((i + 1 < l.length ∧ ltB r.key (mJ w l (i + 1)) = false ∧ (seqR w r n).phase = 2 ∧ (seqR w r n).block = l.getD (i + 1) 0) ∨
      ((i + 1 < l.length → ltB r.key (mJ w l (i + 1)) = true) ∧ (seqR w r n).phase = 8 ∧ ((seqR w r n).found, (seqR w r n).val) = nN w (l.getD i 0) r.key)) := by
  obtain ⟨hz, n, hn, hlev, hnx, hlow, hsl, _, _⟩ := qZ h hi
  have hb : l.getD i 0 < 256 := by have := (lW hn).2.2.1; omega
  obtain ⟨T, hT, a, R, hR, hs⟩ := aKY hn hb r hp hblk
  have hnz : oC w (l.getD i 0) = n := by unfold oC; rw [hn]; rfl
  obtain ⟨hr4, hr4e⟩ : ∃ r4, r4 = seqR w r T := ⟨_, rfl⟩
  have hfe : iL w (seqR w r T) = mX w (seqR w r T) := aSm (by rw [hs])
  have hholds : tY w (l.getD i 0) n.turn = true := by unfold tY; rw [hn]; exact decide_eq_true rfl
  have hits : uW (jF w R) = aAO w (l.getD i 0) := by
    unfold aAO
    rw [hnz]
    refine aKV (fun s hs => ?_) (zG hsl).1 hR
    obtain ⟨x, hx, _⟩ := aBJ hsl s hs
    exact ⟨x, hx⟩
  have hright : vY w (l.getD i 0) = if i + 1 < l.length then some (l.getD (i + 1) 0, mJ w l (i + 1)) else none := by
    unfold vY
    rw [hn]
    simp only
    by_cases hc : i + 1 < l.length
    · rw [if_pos hc] at hnx ⊢
      obtain ⟨hz2, n2, hn2, _, _, hlow2, _⟩ := qZ h hc
      rw [hnx, if_neg hz2, hn2]
      simp only [Option.bind_some, hlow2]
      rfl
    · rw [if_neg hc] at hnx ⊢
      rw [hnx, if_pos rfl]
  by_cases hmv : i + 1 < l.length ∧ ltB r.key (mJ w l (i + 1)) = false
  · refine ⟨T + 1 + 1, by omega, ?_⟩
    have e1 : seqR w r (T + 1) = { r with seek := ⟨l.getD i 0, n.turn, a, R, true⟩, phase := 5, to_ := l.getD (i + 1) 0 } := by
      show iL w (seqR w r T) = _
      rw [hfe, hs]
      unfold mX
      simp only [hholds, hblk, hright, if_pos hmv.1, hmv.2]
      rfl
    have e2 : seqR w r (T + 1 + 1) = { r with seek := ⟨l.getD i 0, n.turn, a, R, true⟩, phase := 2, to_ := l.getD (i + 1) 0, block := l.getD (i + 1) 0 } := by
      show iL w (seqR w r (T + 1)) = _
      rw [e1, aSn rfl]
    rw [e2]
    exact ⟨rfl, .inl ⟨hmv.1, hmv.2, rfl, rfl⟩⟩
  · refine ⟨T + 1 + 1 + 1, by omega, ?_⟩
    have hst : i + 1 < l.length → ltB r.key (mJ w l (i + 1)) = true := fun h1 => by
      cases e : ltB r.key (mJ w l (i + 1)) with
      | true => rfl
      | false => exact absurd ⟨h1, e⟩ hmv
    have e1 : seqR w r (T + 1) = sF w { r with seek := ⟨l.getD i 0, n.turn, a, R, true⟩, phase := 4 } := by
      show iL w (seqR w r T) = _
      rw [hfe, hs]
      unfold mX
      simp only [hholds, hblk, hright]
      by_cases hc : i + 1 < l.length
      · rw [if_pos hc]; simp only [hst hc]; rfl
      · rw [if_neg hc]; rfl
    have e2 : (sF w { r with seek := ⟨l.getD i 0, n.turn, a, R, true⟩, phase := 4 }) = { r with seek := ⟨l.getD i 0, n.turn, a, R, true⟩, phase := 6, found := (nN w (l.getD i 0) r.key).1, val := (nN w (l.getD i 0) r.key).2 } := by
      unfold sF nN
      simp only [hits]
      cases idxR r.key (aAO w (l.getD i 0)) with
      | none => rfl
      | some x => rfl
    have e3 : seqR w r (T + 1 + 1) = { r with seek := ⟨l.getD i 0, n.turn, a, R, true⟩, phase := 7, found := (nN w (l.getD i 0) r.key).1, val := (nN w (l.getD i 0) r.key).2 } := by
      show iL w (seqR w r (T + 1)) = _
      rw [e1, e2, aSo rfl]
    have e4 : seqR w r (T + 1 + 1 + 1) = { r with seek := ⟨l.getD i 0, n.turn, a, R, true⟩, phase := 8, found := (nN w (l.getD i 0) r.key).1, val := (nN w (l.getD i 0) r.key).2 } := by
      show iL w (seqR w r (T + 1 + 1)) = _
      rw [e3, aSp rfl]
    rw [e4]
    exact ⟨rfl, .inr ⟨hst, rfl, rfl⟩⟩
theorem aGN {w l : List Int} (h : jD (eV w) w = some l) (hN : w.length / 16 ≤ 256) : ∀ (d i : Nat), i + d + 1 = l.length → ∀ (r : Rd), r.phase = 2 → r.block = l.getD i 0 → ltB r.key (mJ w l i) = false →
    ∃ n, n ≤ 17 * (d + 1) ∧ (seqR w r n).phase = 8 ∧ ∃ j, i ≤ j ∧ j < l.length ∧ ltB r.key (mJ w l j) = false ∧ (j + 1 < l.length → ltB r.key (mJ w l (j + 1)) = true) ∧ ((seqR w r n).found, (seqR w r n).val) = nN w (l.getD j 0) r.key
  | d, i, hd, r, hp, hb, hlo => by
    have hi : i < l.length := by omega
    obtain ⟨n, hn, hk, h1 | h1⟩ := aNe h hN hi r hp hb
    · obtain ⟨q1, q2, q3, q4⟩ := h1
      cases d with
      | zero => omega
      | succ d =>
        obtain ⟨n2, g1, g2, j, g3, g4, g5, g6, g7⟩ := aGN h hN d (i + 1) (by omega) (seqR w r n) q3 q4 (by rw [hk]; exact q2)
        rw [hk] at g5 g6 g7
        rw [← sU] at g2 g7
        exact ⟨n + n2, by omega, g2, j, by omega, g4, g5, g6, g7⟩
    · exact ⟨n, by omega, h1.2.1, i, Nat.le_refl _, hi, hlo, h1.1, h1.2.2⟩
/-! ### The way down -/
def mZ (w l : List Int) (key : bE) : Nat → Int → Bool
  | 0, _ => false
  | k + 1, b => match dL w b with
    | none => true
    | some n => if n.level = 0 then decide (b ∈ l) && (match lowO w n with
        | none => false
        | some low => !ltB key low) else match lX w b key 0 with
      | none => true
      | some t => mZ w l key k t
def aBo (w l : List Int) (key : bE) : List Int → Int → Int → Prop
  | [], b, c => (dL w b = none ∧ c = 1) ∨ ∃ n, dL w b = some n ∧ ((n.level = 0 ∧ b ∈ l ∧ ltB key (lowZ w b) = false ∧ c = b) ∨ (n.level ≠ 0 ∧ lX w b key 0 = none ∧ c = 1))
  | x :: p, b, c => x = b ∧ ∃ n t, dL w b = some n ∧ n.level ≠ 0 ∧ lX w b key 0 = some t ∧ aBo w l key p t c
theorem aGO {w l : List Int} {key : bE} : ∀ {q : List Int} {b t c : Int} {q' : List Int}, aBo w l key (q ++ b :: q') t c → aBo w l key (b :: q') b c
  | [], b, t, c, q', h => by
    obtain ⟨e, hr⟩ := h
    subst e
    exact ⟨rfl, hr⟩
  | x :: q, b, t, c, q', h => by
    obtain ⟨_, n, t', _, _, _, h⟩ := h
    exact aGO h
theorem aEV {w l : List Int} {key : bE} : ∀ (k : Nat) (b : Int), mZ w l key k b = true → ∃ p c, aBo w l key p b c ∧ p.Nodup ∧ ∀ x ∈ p, ∃ n, dL w x = some n
  | 0, b, h => by cases h
  | k + 1, b, h => by
    unfold mZ at h
    cases hn : dL w b with
    | none => exact ⟨[], 1, .inl ⟨hn, rfl⟩, List.nodup_nil, fun x hx => by cases hx⟩
    | some n =>
      rw [hn] at h
      simp only at h
      by_cases h0 : n.level = 0
      · rw [if_pos h0] at h
        cases hl : lowO w n with
        | none => rw [hl] at h; simp at h
        | some low =>
          rw [hl] at h
          simp only [Bool.and_eq_true, decide_eq_true_eq, Bool.not_eq_true'] at h
          have hz : lowZ w b = low := by unfold lowZ; rw [hn]; simp only [Option.bind_some, hl]; rfl
          exact ⟨[], b, .inr ⟨n, hn, .inl ⟨h0, h.1, by rw [hz]; exact h.2, rfl⟩⟩, List.nodup_nil, fun x hx => by cases hx⟩
      · rw [if_neg h0] at h
        cases hd : lX w b key 0 with
        | none => exact ⟨[], 1, .inr ⟨n, hn, .inr ⟨h0, hd, rfl⟩⟩, List.nodup_nil, fun x hx => by cases hx⟩
        | some t =>
          rw [hd] at h
          simp only at h
          obtain ⟨p, c, h1, h2, h3⟩ := aEV k t h
          by_cases hm : b ∈ p
          · obtain ⟨q, q', rfl⟩ := List.append_of_mem hm
            refine ⟨b :: q', c, aGO h1, ?_, fun x hx => h3 x (List.mem_append_right _ hx)⟩
            exact (List.nodup_append.1 h2).2.1
          · refine ⟨b :: p, c, ⟨rfl, n, t, hn, h0, hd, h1⟩, List.nodup_cons.2 ⟨hm, h2⟩, fun x hx => ?_⟩
            rcases List.mem_cons.1 hx with rfl | hx
            · exact ⟨n, hn⟩
            · exact h3 x hx
theorem aEW {w l : List Int} : ∀ {p : List Int} {b c : Int} (r : Rd), aBo w l r.key p b c → r.phase = 1 → r.block = b → seqR w r (p.length + 1) = { r with block := c, phase := 2 }
  | [], b, c, r, h, hp, hb => by
    show iL w r = _
    rw [aMz hp]
    unfold qS
    rw [hb]
    rcases h with ⟨h1, rfl⟩ | ⟨n, h1, ⟨h2, _, _, rfl⟩ | ⟨h2, h3, rfl⟩⟩
    · rw [h1]
    · rw [h1]; simp only; rw [if_pos h2]
    · rw [h1]; simp only; rw [if_neg h2, h3]
  | x :: p, b, c, r, h, hp, hb => by
    obtain ⟨rfl, n, t, h1, h2, h3, h4⟩ := h
    have e : seqR w r 1 = { r with block := t } := by
      show iL w r = _
      rw [aMz hp]
      unfold qS
      rw [hb, h1]; simp only; rw [if_neg h2, h3]
    rw [List.length_cons, show p.length + 1 + 1 = 1 + (p.length + 1) by omega, sU, e]
    exact aEW { r with block := t } h4 hp rfl
theorem aGP {w l : List Int} {key : bE} (h : jD (eV w) w = some l) : ∀ {p : List Int} {b c : Int}, aBo w l key p b c → ∃ i, i < l.length ∧ c = l.getD i 0 ∧ ltB key (mJ w l i) = false
  | [], b, c, hp => by
    have hone : ∃ i, i < l.length ∧ (1 : Int) = l.getD i 0 ∧ ltB key (mJ w l i) = false := by
      obtain ⟨r, hr⟩ := (oL (uX h).1).2.2.2.2.1
      have hl : 0 < l.length := by rw [hr]; simp
      have := (qZ h hl)
      obtain ⟨_, n, _, _, _, _, _, h0, _⟩ := this
      refine ⟨0, hl, by rw [hr]; rfl, ?_⟩
      unfold mJ
      rw [h0 rfl]; exact aNd key
    rcases hp with ⟨_, rfl⟩ | ⟨n, _, ⟨_, hm, hk, rfl⟩ | ⟨_, _, rfl⟩⟩
    · exact hone
    · obtain ⟨i, hi, e⟩ := List.getElem_of_mem hm
      have e2 : l.getD i 0 = c := by rw [List.getD_eq_getElem?_getD, List.getElem?_eq_getElem hi]; exact e
      exact ⟨i, hi, e2.symm, by unfold mJ; rw [e2]; exact hk⟩
    · exact hone
  | x :: p, b, c, hp => by
    obtain ⟨_, n, t, _, _, _, h4⟩ := hp
    exact aGP h h4
end Lam
namespace Lam
open Go
def aAP : Option nB → Bool × bE
  | none => (false, [])
  | some x => (true, x.val)
theorem aAQ {β : Type} {f : Int → Option β} : ∀ (l : List Int) (j : Nat), j < l.length → (∀ k, k < l.length → k ≠ j → f (l.getD k 0) = none) → l.findSome? f = f (l.getD j 0)
  | [], j, h, _ => absurd h (Nat.not_lt_zero _)
  | a :: r, 0, _, h => by
    rw [List.findSome?_cons]
    have hr : r.findSome? f = none := by
      rw [List.findSome?_eq_none_iff]
      intro x hx
      obtain ⟨i, hi, rfl⟩ := List.getElem_of_mem hx
      have := h (i + 1) (by simpa using hi) (by omega)
      rw [List.getD_cons_succ, List.getD_eq_getElem?_getD, List.getElem?_eq_getElem hi] at this
      exact this
    rw [hr]
    show (match f a with | some b => some b | none => none) = f a
    cases f a <;> rfl
  | a :: r, j + 1, hj, h => by
    have h0 : f a = none := h 0 (by simp) (by omega)
    rw [List.findSome?_cons, h0]
    simp only
    rw [aAQ r j (by simpa using hj) fun k hk hkj => by
      have := h (k + 1) (by simpa using hk) (by omega)
      rwa [List.getD_cons_succ] at this]
    rfl
theorem aIl {p : Rc → Bool} {key : bE} (hp : ∀ x : Rc, (x.key = key ∨ ltB x.key key = true) → p x = true) : ∀ {L : List Rc}, L.Pairwise (fun a b => ltB a.key b.key = true) → (L.takeWhile p).find? (fun x => decide (x.key = key)) = L.find? (fun x => decide (x.key = key))
  | [], _ => rfl
  | a :: r, h => by
    rw [List.pairwise_cons] at h
    cases hpa : p a with
    | true =>
      rw [List.takeWhile_cons, if_pos hpa, List.find?_cons, List.find?_cons, aIl hp h.2]
    | false =>
      rw [List.takeWhile_cons, if_neg (by rw [hpa]; decide), List.find?_nil]
      symm
      rw [List.find?_eq_none]
      intro x hx
      rw [decide_eq_true_eq]
      intro e
      rcases List.mem_cons.1 hx with rfl | hx
      · rw [hp x (.inl e)] at hpa; cases hpa
      · have := h.1 x hx
        rw [e] at this
        rw [hp a (.inr this)] at hpa; cases hpa
theorem aDC {w : List Int} {low : bE} : ∀ {l : List Int} {k : Nat} {last : bE}, lQ w low l k last = true → ∀ s ∈ l, ltB (recZ w s).key low = false
  | [], _, _, _, s, hs => by cases hs
  | a :: r, k, last, h, s, hs => by
    simp only [lQ] at h
    cases hx : recO w a with
    | none => rw [hx] at h; cases h
    | some x =>
      rw [hx] at h
      simp only [Bool.and_eq_true, Bool.not_eq_true'] at h
      rcases List.mem_cons.1 hs with rfl | hs
      · have : recZ w s = x := by unfold recZ; rw [hx]; rfl
        rw [this]; exact h.1.1.2
      · exact aDC h.2 s hs
theorem aGQ {α : Type} {p : α → Bool} : ∀ {L : List α} {x : α}, x ∈ L.takeWhile p → x ∈ L ∧ p x = true
  | [], x, h => by cases h
  | a :: r, x, h => by
    rw [List.takeWhile_cons] at h
    split at h
    · rename_i hp
      rcases List.mem_cons.1 h with rfl | h
      · exact ⟨by simp, hp⟩
      · have := aGQ h; exact ⟨by simp [this.1], this.2⟩
    · cases h
theorem aGR (w : List Int) (key : bE) : ∀ L : List Int, (match idxR key (L.map (recT w)) with | none => (false, []) | some x => (true, x.val)) = aAP (getP ((L.map (recZ w)).map nM) key)
  | [] => rfl
  | a :: r => by
    have ih := aGR w key r
    unfold idxR getP at ih ⊢
    simp only [List.map_cons, List.find?_cons]
    have e1 : (recT w a).key = (recZ w a).key := rfl
    have e2 : (nM (recZ w a)).key = (recZ w a).key := rfl
    rw [e1, e2]
    by_cases h : (recZ w a).key = key
    · rw [decide_eq_true h]; rfl
    · rw [decide_eq_false h]; exact ih
theorem aAR (p : Rc → Bool) (key : bE) : ∀ L : List Rc, getP (L.map nM) key = (L.find? fun x => decide (x.key = key)).map nM
  | [] => rfl
  | a :: r => by
    have ih := aAR p key r
    unfold getP at ih ⊢
    simp only [List.map_cons, List.find?_cons]
    have e2 : (nM a).key = a.key := rfl
    rw [e2]
    by_cases h : a.key = key
    · rw [decide_eq_true h]; rfl
    · rw [decide_eq_false h]; exact ih
theorem aGS {w l : List Int} (h : jD (eV w) w = some l) {i j : Nat} (hij : i ≤ j) (hj : j < l.length) {key : bE} : (ltB key (mJ w l i) = true → ltB key (mJ w l j) = true) := by
  intro hk
  by_cases e : i = j
  · rw [← e]; exact hk
  · obtain ⟨_, n, _, _, _, _, _, _, hlt⟩ := qZ h hj
    exact lZ hk (hlt i (by omega))
theorem aMc {w l : List Int} (h : jD (eV w) w = some l) {j : Nat} (hj : j < l.length) {key : bE} (h1 : ltB key (mJ w l j) = false) (h2 : j + 1 < l.length → ltB key (mJ w l (j + 1)) = true) : nN w (l.getD j 0) key = aAP (getP (allP w l) key) := by
  have hall : getP (allP w l) key = l.findSome? fun b => getP (ownP w b) key := by
    unfold getP allP
    rw [List.find?_flatMap]
  have hone : l.findSome? (fun b => getP (ownP w b) key) = getP (ownP w (l.getD j 0)) key := by
    refine aAQ (f := fun b => getP (ownP w b) key) l j hj fun k hk hkj => ?_
    obtain ⟨hz, n, hn, hlev, hnx, hlow, hsl, _, _⟩ := qZ h hk
    have hnz : oC w (l.getD k 0) = n := by unfold oC; rw [hn]; rfl
    show getP (ownP w (l.getD k 0)) key = none
    unfold getP
    rw [List.find?_eq_none]
    intro x hx
    rw [decide_eq_true_eq]
    intro hxk
    unfold ownP ownL at hx
    rw [hnz] at hx
    obtain ⟨y, hy, rfl⟩ := List.mem_map.1 hx
    obtain ⟨hy1, hy2⟩ := aGQ hy
    obtain ⟨s, hs, rfl⟩ := List.mem_map.1 hy1
    have hk2 : (recZ w s).key = key := hxk
    have hge := aDC hsl s hs
    rw [hk2] at hge
    rcases Nat.lt_or_ge k j with hlt | hge2
    · have hk1 : k + 1 < l.length := by omega
      rw [if_pos hk1] at hnx
      obtain ⟨hz2, _⟩ := qZ h hk1
      unfold ownB at hy2
      rw [hnx, decide_eq_false hz2, Bool.false_or, hk2] at hy2
      have := aGS h (show k + 1 ≤ j by omega) hj (key := key) hy2
      rw [h1] at this; cases this
    · have := aGS h (show j + 1 ≤ k by omega) hk (key := key) (h2 (by omega))
      have e : mJ w l k = lowZ w (l.getD k 0) := rfl
      rw [e, hge] at this; cases this
  obtain ⟨hz, n, hn, hlev, hnx, hlow, hsl, _, _⟩ := qZ h hj
  have hnz : oC w (l.getD j 0) = n := by unfold oC; rw [hn]; rfl
  rw [hall, hone]
  unfold nN aAO
  rw [hnz]
  refine Eq.trans (aGR w key (plain n.slots)) ?_
  unfold ownP ownL
  rw [hnz, aAR (fun _ => true), aAR (fun _ => true), aIl]
  · intro x hx
    unfold ownB
    by_cases hc : j + 1 < l.length
    · rw [if_pos hc] at hnx
      have hk := h2 hc
      rw [hnx]
      have : ltB x.key (lowZ w (l.getD (j + 1) 0)) = true := by
        rcases hx with e | e
        · rw [e]; exact hk
        · exact lZ e hk
      rw [this, Bool.or_true]
    · rw [if_neg hc] at hnx
      rw [hnx]; rfl
  · have := (zG hsl).1
    rw [List.pairwise_map] at this ⊢
    exact this
def rd0 (w : List Int) (key : bE) : Rd := ⟨key, 1, zF w, 0, skZ, [], false⟩
theorem aSq {w l : List Int} {key : bE} (h : jD (eV w) w = some l) (hN : w.length / 16 ≤ 256) (hl : mZ w l key 300 (w.getD 3 0) = true) : ∀ N, 17 * l.length + w.length / 16 + 1 ≤ N → (seqR w (rd0 w key) N).phase = 8 ∧ ((seqR w (rd0 w key) N).found, (seqR w (rd0 w key) N).val) = aAP (getP (allP w l) key) := by
  obtain ⟨p, c, hp, hnd, hno⟩ := aEV _ _ hl
  have hpl : p.length ≤ w.length / 16 := aGu hnd fun x hx => by
    obtain ⟨n, hn⟩ := hno x hx
    obtain ⟨_, q0, q1, _⟩ := lW hn
    exact ⟨q0, q1⟩
  have hroot : zF w = w.getD 3 0 := by unfold zF; rw [(uX h).2.2]; rfl
  have e1 := aEW (rd0 w key) hp rfl hroot
  obtain ⟨i, hi, hc, hlo⟩ := aGP h hp
  obtain ⟨n, hn, hph, j, hij, hj, hj1, hj2, hfv⟩ := aGN h hN (l.length - i - 1) i (by omega) { rd0 w key with block := c, phase := 2 } rfl hc hlo
  have e2 : seqR w (rd0 w key) (p.length + 1 + n) = seqR w { rd0 w key with block := c, phase := 2 } n := by rw [sU, e1]
  rw [← e2] at hph hfv
  have hf := aMc h hj (key := key) hj1 hj2
  intro N hN2
  have hb : n ≤ 17 * l.length := Nat.le_trans hn (Nat.mul_le_mul_left 17 (by omega))
  have hst := aDA (w := w) (r := rd0 w key) (a := p.length + 1 + n) (b := N) hph (by omega)
  rw [hst]
  exact ⟨hph, by rw [hfv]; exact hf⟩
/-! ### A look holds not more than a leaf's slots -/
def FewS (s : Sk) : Prop := s.refs.length ≤ 13 ∧ (s.over = false → (s.refs.length : Int) ≤ if mI s.turn = true then 12 - s.at_ else s.at_)
theorem aNf : FewS skZ := ⟨by decide, fun _ => by decide⟩
theorem aKZ {w : List Int} {b : Int} {s : Sk} (h : qJ w b = some s) : FewS s := by
  unfold qJ at h
  split at h
  · split at h
    · cases h
    · cases h
      refine ⟨by simp, fun _ => ?_⟩
      simp only [List.length_nil]
      split <;> simp
  · cases h
theorem aMd {w : List Int} {s : Sk} (h : FewS s) : FewS (lC w s) := by
  unfold lC
  split
  · exact h
  · rename_i hc
    have hc : (s.over || decide (mW w s < 0)) = false := by simpa using hc
    rw [Bool.or_eq_false_iff, decide_eq_false_iff_not] at hc
    obtain ⟨ho, hsp⟩ := hc
    obtain ⟨h1, h2⟩ := h
    have h2 := h2 ho
    have hat : 0 ≤ s.at_ ∧ s.at_ < 13 := by
      unfold mW at hsp
      split at hsp
      · unfold pF at hsp
        split at hsp
        · rename_i hb
          simp only [Bool.and_eq_true, decide_eq_true_eq] at hb
          omega
        · omega
      · omega
    have hlen : (goOn (w.getD (mW w s).toNat 0) s).refs.length ≤ s.refs.length + 1 := by
      unfold goOn
      simp only
      split <;> simp
    have hto : (goOn (w.getD (mW w s).toNat 0) s).turn = s.turn := rfl
    refine ⟨?_, fun hov => ?_⟩
    · split at h2 <;> omega
    · rw [hto]
      have hov' : kM (w.getD (mW w s).toNat 0) s = false := hov
      have hatn : (goOn (w.getD (mW w s).toNat 0) s).at_ = if mI s.turn = true then s.at_ - 1 else s.at_ + 1 := by
        unfold goOn
        simp only
        rw [if_neg (by rw [hov']; decide)]
        split
        · exact w64 (by omega) (by omega)
        · exact w64 (by omega) (by omega)
      rw [hatn]
      split at h2
      · rename_i hd; rw [if_pos hd, if_pos hd]; omega
      · rename_i hd; rw [if_neg hd, if_neg hd]; omega
theorem aLa (w : List Int) (r : Rd) : (mX w r).seek = r.seek := by
  have hf : (sF w r).seek = r.seek := by unfold sF; split <;> rfl
  unfold mX
  split
  · rfl
  · split
    · exact hf
    · split
      · rfl
      · exact hf
theorem aMe {w : List Int} {r : Rd} (h : FewS r.seek) : FewS (iL w r).seek := by
  unfold iL
  split
  · unfold qS
    split
    · exact h
    · split
      · exact h
      · split <;> exact h
  split
  · unfold sE
    split
    · exact h
    · rename_i x hx; exact aKZ hx
  split
  · exact aMd h
  split
  · rw [aLa]; exact h
  split
  · exact h
  split
  · exact h
  split
  · exact h
  · exact h
theorem aIm {w : List Int} {r : Rd} (h : FewS r.seek) : ∀ k, FewS (seqR w r k).seek
  | 0 => h
  | k + 1 => aMe (aIm h k)
end Lam
namespace Lam
open Go Go.Proofs
def cF.loops : Nat → bU
 | 2 => ⟨[5], [false], [0, 1], [], [], []⟩
 | _ => ⟨[], [], [], [], [], []⟩
def cF.L1 (c : Ctx) (J1 : List AObj → Prop) (K : AOut → List AObj → Prop) (lv : List AV) (h0 : List AObj) (n0 : Nat) (c0 : AV) (c1 : AV) : Prop :=
 ∃ I : Nat → List AV → List AObj → Prop, (∃ n, I n lv h0) ∧ ∀ n h, ∀ t5, I n [t5] h →
 runD (lenD aI h c0) h fun t8 h =>
 runD (binD aB .lss t5 t8) h fun t9 h =>
 bC t9
 (runD (aG aI h c0 t5) h fun t14 h =>
 runD (fitD aB (aD h t14)) h fun t15 h =>
 runD (binD aB .eql t15 c1) h fun t17 h =>
 bC t17
 (K (.ret (.bool true)) h)
 (runD (binD aB .add t5 (.int .i64 1)) h fun t11 h =>
 (∃ m, m < n ∧ I m (AV.norms n0 h [t11]) (cI n0 h)) ∧ AV.norms n0 h [c0, c1] = [c0, c1]))
 (J1 h)
def cF.H (c : Ctx) (t0 : AV) (t1 : AV) (h : List AObj) (K : AOut → List AObj → Prop) : Prop :=
 aL (fun (J1 : List AObj → Prop) =>
 dK [false] [(.int .i64 0)] h fun lv h => cF.L1 c J1 K (AV.norms h.length h lv) (cI h.length h) h.length (AV.norm h.length h t0) (AV.norm h.length h t1))
 (fun h => K (.ret (.bool false)) h)
theorem cF.eq (F : List (FuncId × aE)) (S : List (FuncId × Con)) (t0 t1 : AV) (h : List AObj) (K : AOut → List AObj → Prop) : funW (ctx F S cF.loops) Tryz.f48 [t0, t1] h K = cF.H (ctx F S cF.loops) t0 t1 h K := by kernel_rfl
theorem cF.at : Tryz.prog.funcs[48]? = some Tryz.f48 := by kernel_rfl
theorem cF.nm : (Tryz.f48.name == "runtime.NumGoroutine") = false := by kernel_rfl
theorem cF.bd : Tryz.f48.body.isNone = false := by kernel_rfl
end Lam
namespace Lam
open Go Go.Proofs
def cF.C : aE
  | [.sl _ (.ints .i64 l), .int .i64 v] => some (false, pD (roomy l.length) (.bool (decide (v ∈ l))))
  | _ => none
theorem cF.spec : bO Tryz.prog 48 cF.C := by
  refine bO.of (bQ (F := []) (S := []) (by simp) (by simp) cF.loops) cF.at cF.nm cF.bd ?_
  intro vs b S v news e hS
  unfold cF.C at e
  split at e
  rotate_left
  · cases e
  cases e
  rw [cF.eq]
  unfold cF.H
  simp (maxSteps := 4000000) only [go_sem, reduceEqDiff, Nat.reduceLT, reduceAdd, reduceSub, reduceLeDiff, reduceReplicate, reduceToNat]
  rename_i _ l v
  rw [aA]
  unfold cF.L1
  have hr := hS
  unfold roomy at hr
  refine lA (σ := Nat) (fun k => .int .i64 k) (fun k => []) (fun k => l.length - k) (fun k => k ≤ l.length ∧ v ∉ l.take k) 0 rfl rfl ⟨Nat.zero_le _, by simp⟩ ?_
  rintro I back k ⟨hk, hall⟩
  simp only [go_sem, reduceEqDiff, Nat.reduceLT, reduceAdd, reduceSub, reduceLeDiff, reduceReplicate, reduceToNat]
  refine ⟨fun hlt => ⟨by omega, fun h => ?_, fun h => ?_⟩, fun hge => ?_⟩
  · have : v ∈ l := by rw [← h]; exact lN l k 0 (by omega)
    rw [decide_eq_true this]; exact aH rfl rfl
  · refine back (k + 1) (by omega) (by rw [eQ (by omega)]) rfl ⟨by omega, fun hm => ?_⟩
    rw [iK l k 0 (by omega), List.mem_append, List.mem_singleton] at hm
    rcases hm with hm | hm
    · exact hall hm
    · exact h hm.symm
  · obtain rfl : k = l.length := by omega
    rw [List.take_length] at hall
    rw [decide_eq_false hall]; exact aH rfl rfl
end Lam
namespace Lam
open Go Go.Proofs
def cE.loops : Nat → bU
 | 4 => ⟨[8, 10], [false, false], [0, 1, 5, 9], [(3, none), (2, some [30, 32])], [], []⟩
 | 10 => ⟨[], [], [], [(4, none), (3, some [53, 56]), (2, none), (2, some [58, 60]), (2, none), (3, some [62, 65])], [], []⟩
 | _ => ⟨[], [], [], [], [], []⟩
def cE.L1 (c : Ctx) (J1 : List AObj → Prop) (K : AOut → List AObj → Prop) (lv : List AV) (h0 : List AObj) (n0 : Nat) (c0 : AV) (c1 : AV) (c5 : AV) (c9 : AV) : Prop :=
 ∃ I : Nat → List AV → List AObj → Prop, (∃ n, I n lv h0) ∧ ∀ n h, ∀ t8, ∀ t10, I n [t8, t10] h →
 runD (binD aB .lss t10 (.int .i64 300)) h fun t29 h =>
 aL (fun (J2 : AV → AV → List AObj → Prop) =>
 bF t29 true
 (runD (binD cO .eql c9 (.int .i64 0)) h fun t32 h =>
 J2 (.bool true) t32 h)
 (J2 (.bool false) .und h))
 (fun t30 t32 h => runD (bV t30 t32 (.bool false)) h fun t33 h =>
 bC t33
 (aO false c (.fn (.func 46) [] []) [c0, t8] h (fun t39 h =>
 runD (aW t39 0) h fun t40 h =>
 runD (aW t39 1) h fun t41 h =>
 cV bA h fun t11 h =>
 runH (aT bA h t11 t40) h fun _ h =>
 aO false c (.fn (.func 47) [] []) [c0, t8] h (fun t45 h =>
 runD (aW t45 0) h fun t46 h =>
 runD (aW t45 1) h fun t47 h =>
 runD (binD cO .neq t41 (.int .i64 0)) h fun t49 h =>
 bC t49
 (K (.ret (.int .i64 1)) h)
 (runD (aC bA t11 0) h fun t50 h =>
 runD (fitD aB (aD h t50)) h fun t51 h =>
 runD (binD aB .eql t51 (.int .i64 0)) h fun t52 h =>
 aL (fun (J3 : AV → AV → List AObj → Prop) =>
 bF t52 true
 (aO false c (.fn (.func 48) [] []) [c5, t8] h (fun t56 h =>
 J3 (.bool true) t56 h)
 (fun v h => K (.pan v) h))
 (J3 (.bool false) .und h))
 (fun t53 t56 h => runD (bV t53 t56 (.bool false)) h fun t57 h =>
 aL (fun (J4 : AV → AV → List AObj → Prop) =>
 bF t57 true
 (runD (binD cO .eql t47 (.int .i64 0)) h fun t60 h =>
 J4 (.bool true) t60 h)
 (J4 (.bool false) .und h))
 (fun t58 t60 h => runD (bV t58 t60 (.bool false)) h fun t61 h =>
 aL (fun (J5 : AV → AV → List AObj → Prop) =>
 bF t61 true
 (runD (binD cB .leq t46 c1) h fun t65 h =>
 J5 (.bool true) t65 h)
 (J5 (.bool false) .und h))
 (fun t62 t65 h => runD (bV t62 t65 (.bool false)) h fun t66 h =>
 bC t66
 (K (.ret (.int .i64 1)) h)
 (runD (aC bA t11 0) h fun t67 h =>
 runD (fitD aB (aD h t67)) h fun t68 h =>
 runD (binD aB .eql t68 (.int .i64 0)) h fun t69 h =>
 bC t69
 (K (.ret (.int .i64 0)) h)
 (aO false c (.fn (.func 49) [] []) [c0, t8, c1, (.int .i64 0)] h (fun t74 h =>
 runD (aW t74 0) h fun t75 h =>
 runD (aW t74 1) h fun t76 h =>
 runD (binD cO .neq t76 (.int .i64 0)) h fun t78 h =>
 bC t78
 (K (.ret (.int .i64 1)) h)
 (runD (binD aB .add t10 (.int .i64 1)) h fun t35 h =>
 (∃ m, m < n ∧ I m (AV.norms n0 h [t75, t35]) (cI n0 h)) ∧ AV.norms n0 h [c0, c1, c5, c9] = [c0, c1, c5, c9]))
 (fun v h => K (.pan v) h))))))))
 (fun v h => K (.pan v) h))
 (fun v h => K (.pan v) h))
 (J1 h))
def cE.H (c : Ctx) (t0 : AV) (t1 : AV) (h : List AObj) (K : AOut → List AObj → Prop) : Prop :=
 aO false c (.fn (.func 24) [] []) [t0] h (fun t19 h =>
 runD (aW t19 0) h fun t20 h =>
 runD (aW t19 1) h fun t21 h =>
 aO false c (.fn (.func 38) [] []) [t0] h (fun t24 h =>
 runD (aW t24 0) h fun t25 h =>
 runD (aW t24 1) h fun t26 h =>
 runD (aW t24 2) h fun t27 h =>
 aL (fun (J1 : List AObj → Prop) =>
 dK [false, false] [t26, (.int .i64 0)] h fun lv h => cE.L1 c J1 K (AV.norms h.length h lv) (cI h.length h) h.length (AV.norm h.length h t0) (AV.norm h.length h t1) (AV.norm h.length h t20) (AV.norm h.length h t27))
 (fun h => K (.ret (.int .i64 0)) h))
 (fun v h => K (.pan v) h))
 (fun v h => K (.pan v) h)
theorem cE.eq (F : List (FuncId × aE)) (S : List (FuncId × Con)) (t0 t1 : AV) (h : List AObj) (K : AOut → List AObj → Prop) : funW (ctx F S cE.loops) Tryz.f23 [t0, t1] h K = cE.H (ctx F S cE.loops) t0 t1 h K := by kernel_rfl
theorem cE.at : Tryz.prog.funcs[23]? = some Tryz.f23 := by kernel_rfl
theorem cE.nm : (Tryz.f23.name == "runtime.NumGoroutine") = false := by kernel_rfl
theorem cE.bd : Tryz.f23.body.isNone = false := by kernel_rfl
end Lam
namespace Lam
open Go Go.Proofs
end Lam
namespace Lam
open Go Go.Proofs
def rJ (w : List Int) : List Int := (lG (eV w) w).getD []
theorem aJy (w : List Int) : ∃ e, nL w = .tup [.sl false (.ints .i64 (rJ w)), .int .i64 e] := by
  unfold rJ nL
  cases lG (eV w) w with
  | none => exact ⟨_, rfl⟩
  | some l => exact ⟨_, rfl⟩
theorem aHJ (w : List Int) : (rJ w).length ≤ w.length / 16 := by
  unfold rJ
  cases h : lG (eV w) w with
  | none => exact Nat.zero_le _
  | some l => exact (oL h).2.2.2.1
theorem aJz {w l : List Int} {key : bE} {k : Nat} {b : Int} (h : dL w b = none) : mZ w l key (k + 1) b = true := by unfold mZ; rw [h]
theorem aJA {w l : List Int} {key : bE} {k : Nat} {b : Int} {n : Nd} (h : dL w b = some n) (h0 : n.level = 0) : mZ w l key (k + 1) b = (decide (b ∈ l) && (match lowO w n with
    | none => false
    | some low => !ltB key low)) := by unfold mZ; rw [h]; simp only; rw [if_pos h0] <;> rfl
theorem aMf {w l : List Int} {key : bE} {k : Nat} {b : Int} {n : Nd} (h : dL w b = some n) (h0 : n.level ≠ 0) (hd : lX w b key 0 = none) : mZ w l key (k + 1) b = true := by unfold mZ; rw [h]; simp only; rw [if_neg h0, hd]
theorem aMg {w l : List Int} {key : bE} {k : Nat} {b t : Int} {n : Nd} (h : dL w b = some n) (h0 : n.level ≠ 0) (hd : lX w b key 0 = some t) : mZ w l key (k + 1) b = mZ w l key k t := by
  show (match dL w b with
    | none => true
    | some n => _) = _
  rw [h]; simp only; rw [if_neg h0, hd]
def aAS (w : List Int) (key : bE) : Int := if eV w = true ∧ mZ w (rJ w) key 300 (w.getD 3 0) = true then 1 else 0
def cE.C : aE
  | [.sl _ (.ints .i64 w), .str key] => some (false, pD (iH w) (.int .i64 (aAS w key)))
  | _ => none
theorem cE.spec : bO Tryz.prog 23 cE.C := by
  refine bO.of (bQ (F := [(24, dY.C), (38, eE.C), (46, cL.C), (47, dH.C), (48, cF.C), (49, eF.C)]) (S := []) (by simpa using ⟨dY.spec, eE.spec, cL.spec, dH.spec, cF.spec, eF.spec⟩) (by simp) cE.loops) cE.at cE.nm cE.bd ?_
  intro vs b S v news e hS
  unfold cE.C at e
  split at e
  rotate_left
  · cases e
  cases e
  rw [cE.eq]
  unfold cE.H
  simp (maxSteps := 4000000) only [go_sem, reduceEqDiff, Nat.reduceLT, reduceAdd, reduceSub, reduceLeDiff, reduceReplicate, reduceToNat, dY.C, eE.C, cL.C, dH.C, cF.C, eF.C]
  rename_i w key
  have hr := iH.roomy hS
  have hw := hS.1
  obtain ⟨el, hlv⟩ := aJy w
  have hll := aHJ w
  have hrl : roomy (rJ w).length := by unfold roomy; omega
  unfold aAS
  generalize rJ w = l at *
  cases hb : eV w with
  | false =>
    have hv : kU w = .tup [.int .i64 0, .int .i64 0, .int .i64 80] := by unfold kU; rw [hb]; rfl
    simp only [hlv, hv, aA, decide_false, decide_true, aA, gq, reduceEq, reduceLT, reduceLE, implies_true, reduceCtorEq, if_true, if_false, go_sem, reduceEqDiff, Nat.reduceLT, reduceAdd, reduceSub, reduceLeDiff, reduceReplicate, reduceToNat]
    refine ⟨hS, hr, ?_⟩
    unfold cE.L1
    refine pU (σ := Nat) (fun k => .int .i64 0) (fun k => .int .i64 k) (fun k => []) (fun k => 0) (fun k => True) 0 rfl rfl trivial ?_
    intro I back k hk
    by_cases hk3 : (k : Int) < 300
    · simp only [hk3, aA, decide_false, decide_true, aA, gq, reduceEq, reduceLT, reduceLE, implies_true, reduceCtorEq, if_true, if_false, go_sem, reduceEqDiff, Nat.reduceLT, reduceAdd, reduceSub, reduceLeDiff, reduceReplicate, reduceToNat]
      exact aH (by rw [if_neg (fun h => by cases h.1)]; rfl) rfl
    · simp only [hk3, aA, decide_false, decide_true, aA, gq, reduceEq, reduceLT, reduceLE, implies_true, reduceCtorEq, if_true, if_false, go_sem, reduceEqDiff, Nat.reduceLT, reduceAdd, reduceSub, reduceLeDiff, reduceReplicate, reduceToNat]
      exact aH (by rw [if_neg (fun h => by cases h.1)]; rfl) rfl
  | true =>
    have hv : kU w = .tup [.int .i64 (w.getD 1 0), .int .i64 (w.getD 3 0), .int .i64 0] := by unfold kU; rw [hb]; rfl
    simp only [hlv, hv, aA, decide_false, decide_true, aA, gq, reduceEq, reduceLT, reduceLE, implies_true, reduceCtorEq, if_true, if_false, go_sem, reduceEqDiff, Nat.reduceLT, reduceAdd, reduceSub, reduceLeDiff, reduceReplicate, reduceToNat]
    refine ⟨hS, hr, ?_⟩
    obtain ⟨N, hN⟩ : ∃ N : Nat, N = 300 := ⟨_, rfl⟩
    rw [← hN]
    obtain ⟨Q, hQ⟩ : ∃ Q, mZ w l key N (w.getD 3 0) = Q := ⟨_, rfl⟩
    rw [hQ]
    unfold cE.L1
    refine pU (σ := Nat × Int) (fun s => .int .i64 s.2) (fun s => .int .i64 s.1) (fun s => []) (fun s => N - s.1) (fun s => s.1 ≤ N ∧ mZ w l key (N - s.1) s.2 = Q) (0, w.getD 3 0) rfl rfl ⟨by simp only; omega, hQ⟩ ?_
    rintro I back ⟨k, at_⟩ ⟨hk, hland⟩
    simp only at hk hland ⊢
    by_cases hk3 : k < N
    rotate_left
    · obtain rfl : k = N := by omega
      clear back
      rw [Nat.sub_self] at hland
      have hl0 : Q = false := hland.symm
      have d1 : decide ((k : Int) < 300) = false := decide_eq_false (by omega)
      simp only [hl0, d1, aA, decide_false, decide_true, aA, gq, reduceEq, reduceLT, reduceLE, implies_true, reduceCtorEq, if_true, if_false, go_sem, reduceEqDiff, Nat.reduceLT, reduceAdd, reduceSub, reduceLeDiff, reduceReplicate, reduceToNat]
      exact aH rfl rfl
    have d1 : decide ((k : Int) < 300) = true := decide_eq_true (by omega)
    obtain ⟨e2, h2⟩ := aIk w at_
    obtain ⟨m, hm⟩ : ∃ m, N - k = m + 1 := ⟨N - 1 - k, by omega⟩
    have hb : ∀ t, mZ w l key m t = Q → _ := fun t ht => @back (N - k) _ [] (k + 1, t) (by simp only; omega) rfl rfl ⟨by simp only; omega, by simp only; rw [show N - (k + 1) = m by omega]; exact ht⟩
    clear back
    rw [hm] at hland
    cases hn : dL w at_ with
    | none =>
      obtain ⟨e, he, h⟩ := nZ hn
      rw [aJz hn] at hland
      simp only [cL.C, dH.C, h, h2, d1, jO, he, ← hland, decide_false, decide_true, aA, aA, gq, reduceEq, reduceLT, reduceLE, implies_true, reduceCtorEq, if_true, if_false, go_sem, reduceEqDiff, Nat.reduceLT, reduceAdd, reduceSub, reduceLeDiff, reduceReplicate, reduceToNat]
      exact ⟨hr, hS, aH rfl rfl⟩
    | some n =>
      by_cases h0 : n.level = 0
      · rw [aJA hn h0] at hland
        obtain ⟨n1, n2, n3, n4, n5⟩ := n
        simp only at h0
        subst h0
        clear hb
        cases hl : lowO w ⟨0, n2, n3, n4, n5⟩ with
        | none =>
          have hv : lowV w at_ = .tup [.str [], .int .i64 110] := by unfold lowV; rw [hn]; simp only [Option.bind_some, hl]
          rw [hl] at hland
          simp only [Bool.and_false] at hland
          subst hland
          cases hin : decide (at_ ∈ l) with
          | true =>
            simp only [cL.C, dH.C, cF.C, iV hn, Nd.V, hv, hin, d1, decide_false, decide_true, aA, aA, gq, reduceEq, reduceLT, reduceLE, implies_true, reduceCtorEq, if_true, if_false, go_sem, reduceEqDiff, Nat.reduceLT, reduceAdd, reduceSub, reduceLeDiff, reduceReplicate, reduceToNat]
            exact ⟨hr, hS, hrl, aH rfl rfl⟩
          | false =>
            simp only [cL.C, dH.C, cF.C, iV hn, Nd.V, hv, hin, d1, decide_false, decide_true, aA, aA, gq, reduceEq, reduceLT, reduceLE, implies_true, reduceCtorEq, if_true, if_false, go_sem, reduceEqDiff, Nat.reduceLT, reduceAdd, reduceSub, reduceLeDiff, reduceReplicate, reduceToNat]
            exact ⟨hr, hS, hrl, aH rfl rfl⟩
        | some low =>
          have hv : lowV w at_ = .tup [.str low, .int .i64 0] := by unfold lowV; rw [hn]; simp only [Option.bind_some, hl]
          rw [hl] at hland
          simp only at hland
          cases hin : decide (at_ ∈ l) with
          | true =>
            cases hlt : ltB key low with
            | true =>
              rw [hin, hlt] at hland
              subst hland
              simp only [cL.C, dH.C, cF.C, iV hn, Nd.V, hv, hin, hlt, d1, decide_false, decide_true, aA, aA, gq, reduceEq, reduceLT, reduceLE, implies_true, reduceCtorEq, if_true, if_false, go_sem, reduceEqDiff, Nat.reduceLT, reduceAdd, reduceSub, reduceLeDiff, reduceReplicate, reduceToNat]
              exact ⟨hr, hS, hrl, aH rfl rfl⟩
            | false =>
              rw [hin, hlt] at hland
              subst hland
              simp only [cL.C, dH.C, cF.C, iV hn, Nd.V, hv, hin, hlt, d1, decide_false, decide_true, aA, aA, gq, reduceEq, reduceLT, reduceLE, implies_true, reduceCtorEq, if_true, if_false, go_sem, reduceEqDiff, Nat.reduceLT, reduceAdd, reduceSub, reduceLeDiff, reduceReplicate, reduceToNat]
              exact ⟨hr, hS, hrl, aH rfl rfl⟩
          | false =>
            rw [hin, Bool.false_and] at hland
            subst hland
            simp only [cL.C, dH.C, cF.C, iV hn, Nd.V, hv, hin, d1, decide_false, decide_true, aA, aA, gq, reduceEq, reduceLT, reduceLE, implies_true, reduceCtorEq, if_true, if_false, go_sem, reduceEqDiff, Nat.reduceLT, reduceAdd, reduceSub, reduceLeDiff, reduceReplicate, reduceToNat]
            exact ⟨hr, hS, hrl, aH rfl rfl⟩
      · cases hd : lX w at_ key 0 with
        | none =>
          have hv : oA w at_ key 0 = .tup [.int .i64 0, .int .i64 90] := by unfold oA; rw [hd]
          rw [aMf hn h0 hd] at hland
          rw [← hland]
          obtain ⟨n1, n2, n3, n4, n5⟩ := n
          simp only at h0
          simp only [cL.C, dH.C, eF.C, iV hn, Nd.V, h2, hv, h0, d1, decide_false, decide_true, aA, aA, gq, reduceEq, reduceLT, reduceLE, implies_true, reduceCtorEq, if_true, if_false, go_sem, reduceEqDiff, Nat.reduceLT, reduceAdd, reduceSub, reduceLeDiff, reduceReplicate, reduceToNat]
          exact ⟨hr, hS, hS, aH rfl rfl⟩
        | some t =>
          have hv : oA w at_ key 0 = .tup [.int .i64 t, .int .i64 0] := by unfold oA; rw [hd]
          rw [aMg hn h0 hd] at hland
          have hb2 := hb t hland
          clear hb
          obtain ⟨n1, n2, n3, n4, n5⟩ := n
          simp only at h0
          simp only [cL.C, dH.C, eF.C, iV hn, Nd.V, h2, hv, h0, d1, eQ (show k < 4611686018427387904 by omega), decide_false, decide_true, aA, aA, gq, reduceEq, reduceLT, reduceLE, implies_true, reduceCtorEq, if_true, if_false, go_sem, reduceEqDiff, Nat.reduceLT, reduceAdd, reduceSub, reduceLeDiff, reduceReplicate, reduceToNat] at hb2 ⊢
          exact ⟨hr, hS, hS, hb2⟩
end Lam
namespace Lam
open Go Go.Proofs
def begR (w : List Int) (key : bE) : Rd := if key ≠ [] ∧ key.length ≤ 21 then rd0 w key else rdZ
theorem aLb (w : List Int) (key : bE) : ∃ e, jZ w key = .tup [(begR w key).V, .int .i64 e] := by
  unfold jZ begR
  by_cases h : key ≠ [] ∧ key.length ≤ 21
  · rw [if_pos h, if_pos h]; exact ⟨_, rfl⟩
  · rw [if_neg h, if_neg h]; exact ⟨_, rfl⟩
theorem aNg {w : List Int} (h1 : w.length ≤ 1000) (h2 : w.length % 16 = 0) : newM w = .tup [memV w w [], .int .i64 0] := by
  have hs : szB w.length = true := by
    unfold szB
    rw [decide_eq_true (by omega), Int.tmod_eq_emod_of_nonneg (by omega), decide_eq_true (by omega)]; rfl
  unfold newM
  rw [hs]; rfl
theorem aLc {w : List Int} (hw : w.length ≤ 1000) (hi : i64s w) (r : Rd) (h : FewS r.seek) : (kT w w [] ∧ iH w ∧ r.seek.refs.length ≤ 200) ∧ oB ⟨w, w, []⟩ r = (⟨w, w, []⟩, iL w r) :=
  ⟨⟨⟨by unfold roomy; omega, by unfold roomy; omega, by unfold roomy; decide⟩, ⟨by omega, hi⟩, Nat.le_trans h.1 (by decide)⟩, aHI w r⟩
end Lam
namespace Lam
open Go Go.Proofs
def dX.loops : Nat → bU
 | 2 => ⟨[], [], [], [(4, none), (4, some [21, 25]), (2, none), (3, some [27, 30])], [], []⟩
 | 6 => ⟨[], [], [], [(3, none), (2, some [46, 48]), (2, none), (4, some [50, 54])], [], []⟩
 | 11 => ⟨[14], [false], [0, 1, 5, 6, 8, 10, 12], [(11, none), (3, some [77, 80])], [], []⟩
 | 15 => ⟨[], [], [], [(2, none), (3, some [97, 100]), (2, none), (4, some [102, 106]), (2, none), (4, some [108, 112]), (2, none), (4, some [114, 118]), (2, none), (4, some [120, 124])], [], []⟩
 | _ => ⟨[], [], [], [], [], []⟩
def dX.L1 (c : Ctx) (J5 : AV → AV → AV → AV → AV → AV → List AObj → Prop) (K : AOut → List AObj → Prop) (lv : List AV) (h0 : List AObj) (n0 : Nat) (c0 : AV) (c1 : AV) (c5 : AV) (c6 : AV) (c8 : AV) (c10 : AV) (c12 : AV) : Prop :=
 ∃ I : Nat → List AV → List AObj → Prop, (∃ n, I n lv h0) ∧ ∀ n h, ∀ t14, I n [t14] h →
 runD (lenD aI h c10) h fun t69 h =>
 runD (binD aB .mul (.int .i64 20) t69) h fun t70 h =>
 runD (binD aB .add t70 (.int .i64 20)) h fun t71 h =>
 runD (lenD aI h c0) h fun t73 h =>
 runD (binD aB .quo t73 (.int .i64 16)) h fun t74 h =>
 runD (binD aB .add t71 t74) h fun t75 h =>
 runD (binD aB .lss t14 t75) h fun t76 h =>
 aL (fun (J6 : AV → AV → List AObj → Prop) =>
 bF t76 true
 (runD (aC bH c8 1) h fun t78 h =>
 runD (fitD aB (aD h t78)) h fun t79 h =>
 runD (binD aB .neq t79 (.int .i64 8)) h fun t80 h =>
 J6 (.bool true) t80 h)
 (J6 (.bool false) .und h))
 (fun t77 t80 h => runD (bV t77 t80 (.bool false)) h fun t81 h =>
 bC t81
 (runD (fitD aM (aD h c12)) h fun t85 h =>
 runD (fitD bH (aD h c8)) h fun t86 h =>
 aO false c (.fn (.func 14) [] []) [t85, t86] h (fun t87 h =>
 runD (aW t87 0) h fun t88 h =>
 runD (aW t87 1) h fun t89 h =>
 runH (aT aM h c12 t88) h fun _ h =>
 runH (aT bH h c8 t89) h fun _ h =>
 runD (binD aB .add t14 (.int .i64 1)) h fun t83 h =>
 (∃ m, m < n ∧ I m (AV.norms n0 h [t83]) (cI n0 h)) ∧ AV.norms n0 h [c0, c1, c5, c6, c8, c10, c12] = [c0, c1, c5, c6, c8, c10, c12])
 (fun v h => K (.pan v) h))
 (J5 c0 c1 c5 c6 c8 c12 h))
def dX.H (c : Ctx) (t0 : AV) (t1 : AV) (h : List AObj) (K : AOut → List AObj → Prop) : Prop :=
 aO false c (.fn (.func 11) [] []) [] h (fun t17 h =>
 runD (lenD aI h t0) h fun t19 h =>
 runD (binD aB .gtr t19 (.int .i64 1000)) h fun t20 h =>
 aL (fun (J1 : AV → AV → List AObj → Prop) =>
 bF t20 false
 (runD (lenD aI h t0) h fun t23 h =>
 runD (binD aB .rem t23 (.int .i64 16)) h fun t24 h =>
 runD (binD aB .neq t24 (.int .i64 0)) h fun t25 h =>
 J1 (.bool false) t25 h)
 (J1 (.bool true) .und h))
 (fun t21 t25 h => runD (bV t21 (.bool true) t25) h fun t26 h =>
 aL (fun (J2 : AV → AV → List AObj → Prop) =>
 bF t26 false
 (runD (lenD cB h t1) h fun t29 h =>
 runD (binD aB .gtr t29 (.int .i64 100)) h fun t30 h =>
 J2 (.bool false) t30 h)
 (J2 (.bool true) .und h))
 (fun t27 t30 h => runD (bV t27 (.bool true) t30) h fun t31 h =>
 bC t31
 (K (.ret t17) h)
 (aO false c (.fn (.func 26) [] []) [t0] h (fun t35 h =>
 runD (aW t35 0) h fun t36 h =>
 runD (aW t35 1) h fun t37 h =>
 aO false c (.fn (.func 27) [] []) [t0, t1] h (fun t41 h =>
 runD (aW t41 0) h fun t42 h =>
 runD (aW t41 1) h fun t43 h =>
 cV bH h fun t8 h =>
 runH (aT bH h t8 t42) h fun _ h =>
 runD (binD cO .neq t37 (.int .i64 0)) h fun t45 h =>
 aL (fun (J3 : AV → AV → List AObj → Prop) =>
 bF t45 false
 (runD (binD cO .neq t43 (.int .i64 0)) h fun t48 h =>
 J3 (.bool false) t48 h)
 (J3 (.bool true) .und h))
 (fun t46 t48 h => runD (bV t46 (.bool true) t48) h fun t49 h =>
 aL (fun (J4 : AV → AV → List AObj → Prop) =>
 bF t49 false
 (aO false c (.fn (.func 23) [] []) [t0, t1] h (fun t53 h =>
 runD (binD aB .eql t53 (.int .i64 0)) h fun t54 h =>
 J4 (.bool false) t54 h)
 (fun v h => K (.pan v) h))
 (J4 (.bool true) .und h))
 (fun t50 t54 h => runD (bV t50 (.bool true) t54) h fun t55 h =>
 bC t55
 (K (.ret t17) h)
 (aO false c (.fn (.func 24) [] []) [t0] h (fun t59 h =>
 runD (aW t59 0) h fun t60 h =>
 runD (aW t59 1) h fun t61 h =>
 aO false c (.fn (.func 28) [] []) [t0] h (fun t64 h =>
 runD (aW t64 0) h fun t65 h =>
 runD (aW t64 1) h fun t66 h =>
 cV aM h fun t12 h =>
 runH (aT aM h t12 t65) h fun _ h =>
 aL (fun (J5 : AV → AV → AV → AV → AV → AV → List AObj → Prop) =>
 dK [false] [(.int .i64 0)] h fun lv h => dX.L1 c J5 K (AV.norms h.length h lv) (cI h.length h) h.length (AV.norm h.length h t0) (AV.norm h.length h t1) (AV.norm h.length h t17) (AV.norm h.length h t36) (AV.norm h.length h t8) (AV.norm h.length h t60) (AV.norm h.length h t12))
 (fun t0 t1 t5 t6 t8 t12 h => aO false c (.fn (.func 29) [] []) [t6, t1] h (fun t93 h =>
 runD (aW t93 0) h fun t94 h =>
 runD (aW t93 1) h fun t95 h =>
 aL (fun (J7 : AV → AV → List AObj → Prop) =>
 bF t5 true
 (runD (aC bH t8 1) h fun t98 h =>
 runD (fitD aB (aD h t98)) h fun t99 h =>
 runD (binD aB .eql t99 (.int .i64 8)) h fun t100 h =>
 J7 (.bool true) t100 h)
 (J7 (.bool false) .und h))
 (fun t97 t100 h => runD (bV t97 t100 (.bool false)) h fun t101 h =>
 aL (fun (J8 : AV → AV → List AObj → Prop) =>
 bF t101 true
 (runD (aC bH t8 6) h fun t103 h =>
 runD (fitD lR (aD h t103)) h fun t104 h =>
 runD (binD lR .eql t104 t95) h fun t106 h =>
 J8 (.bool true) t106 h)
 (J8 (.bool false) .und h))
 (fun t102 t106 h => runD (bV t102 t106 (.bool false)) h fun t107 h =>
 aL (fun (J9 : AV → AV → List AObj → Prop) =>
 bF t107 true
 (runD (aC bH t8 5) h fun t109 h =>
 runD (fitD cB (aD h t109)) h fun t110 h =>
 runD (binD cB .eql t110 t94) h fun t112 h =>
 J9 (.bool true) t112 h)
 (J9 (.bool false) .und h))
 (fun t108 t112 h => runD (bV t108 t112 (.bool false)) h fun t113 h =>
 aL (fun (J10 : AV → AV → List AObj → Prop) =>
 bF t113 true
 (runD (aC aM t12 0) h fun t115 h =>
 runD (fitD aI (aD h t115)) h fun t116 h =>
 aO false c (.fn (.func 15) [] []) [t116, t0] h (fun t118 h =>
 J10 (.bool true) t118 h)
 (fun v h => K (.pan v) h))
 (J10 (.bool false) .und h))
 (fun t114 t118 h => runD (bV t114 t118 (.bool false)) h fun t119 h =>
 aL (fun (J11 : AV → AV → List AObj → Prop) =>
 bF t119 true
 (runD (aC aM t12 1) h fun t121 h =>
 runD (fitD aI (aD h t121)) h fun t122 h =>
 aO false c (.fn (.func 15) [] []) [t122, t0] h (fun t124 h =>
 J11 (.bool true) t124 h)
 (fun v h => K (.pan v) h))
 (J11 (.bool false) .und h))
 (fun t120 t124 h => runD (bV t120 t124 (.bool false)) h fun t125 h =>
 K (.ret t125) h))))))
 (fun v h => K (.pan v) h)))
 (fun v h => K (.pan v) h))
 (fun v h => K (.pan v) h)))))
 (fun v h => K (.pan v) h))
 (fun v h => K (.pan v) h)))))
 (fun v h => K (.pan v) h)
theorem dX.eq (F : List (FuncId × aE)) (S : List (FuncId × Con)) (t0 t1 : AV) (h : List AObj) (K : AOut → List AObj → Prop) : funW (ctx F S dX.loops) Tryz.f7 [t0, t1] h K = dX.H (ctx F S dX.loops) t0 t1 h K := by kernel_rfl
end Lam
namespace Lam
open Go Go.Proofs
abbrev qT : Ctx := ctx [(11, cK.C), (26, fN.C), (27, fD.C), (23, cE.C), (24, dY.C), (28, gW.C), (14, fT.C), (29, iI.C), (15, bZ.C)] [] dX.loops
set_option maxHeartbeats 1000000 in
theorem aGT (words : List Int) (key : bE) (w_words : wfL (.ints .i64 words)) (n_words : words.length ≤ maxLen) : dX.H qT (.sl false (.ints .i64 words)) (.str key) [] Told := by
  unfold dX.H
  simp (maxSteps := 4000000) only [go_sem, reduceEqDiff, Nat.reduceLT, reduceAdd, reduceSub, reduceLeDiff, reduceReplicate, reduceToNat, cK.C, fN.C, fD.C, cE.C, dY.C, gW.C, fT.C, iI.C, bZ.C]
  have hi := aMU w_words
  have hs : ¬ 1000 < (words.length : Int) → iH words := fun h => ⟨by omega, hi⟩
  refine ⟨fun _ => by decide, fun _ => rfl, fun hg => ?_⟩
  simp only [Bool.or_eq_false_iff, decide_eq_false_iff_not, Bool.not_eq_false', decide_eq_true_eq] at hg
  obtain ⟨⟨g1, g2⟩, g3⟩ := hg
  have hS := hs g1
  have hw : words.length ≤ 1000 := by omega
  have h16 : words.length % 16 = 0 := by rw [Int.tmod_eq_emod_of_nonneg (by omega)] at g2; omega
  have hr := iH.roomy hS
  refine ⟨hS, ?_⟩
  cases hl : jD (eV words) words with
  | none =>
    have hp : yH words = .tup [.sl false (.pairs []), .int .i64 110] := by unfold yH; rw [hl]
    obtain ⟨eb, hbg⟩ := aLb words key
    generalize begR words key = r at *
    obtain ⟨r1, r2, r3, r4, ⟨s1, s2, s3, s4, s5⟩, r5, r6⟩ := r
    simp only [hp, hbg, Rd.V, Sk.V, decide_false, decide_true, aA, aA, gq, reduceEq, reduceLT, reduceLE, implies_true, reduceCtorEq, if_true, if_false, go_sem, reduceEqDiff, Nat.reduceLT, reduceAdd, reduceSub, reduceLeDiff, reduceReplicate, reduceToNat]
    exact ⟨hr, rfl⟩
  | some l =>
  have hp : yH words = .tup [.sl false (.pairs (allP words l)), .int .i64 0] := by unfold yH; rw [hl]
  by_cases hk : key ≠ [] ∧ key.length ≤ 21
  rotate_left
  · have hbg : jZ words key = .tup [rdZ.V, .int .i64 20] := by unfold jZ; rw [if_neg hk]
    simp only [hp, hbg, rdZ, Rd.V, skZ, Sk.V, decide_false, decide_true, aA, aA, gq, reduceEq, reduceLT, reduceLE, implies_true, reduceCtorEq, if_true, if_false, go_sem, reduceEqDiff, Nat.reduceLT, reduceAdd, reduceSub, reduceLeDiff, reduceReplicate, reduceToNat]
    exact ⟨hr, rfl⟩
  have hbg : jZ words key = .tup [(rd0 words key).V, .int .i64 0] := by unfold jZ rd0; rw [if_pos hk]
  have hfew : FewS (rd0 words key).seek := aNf
  obtain ⟨hch, hlv, hrd⟩ := uX hl
  have hleaves : nL words = .tup [.sl false (.ints .i64 l), .int .i64 0] := by unfold nL; rw [hch]
  have hll := (oL hch).2.2.2.1
  have hal := aCo words l
  have hfound : aAS words key ≠ 0 → ∀ N, 17 * l.length + words.length / 16 + 1 ≤ N → (seqR words (rd0 words key) N).phase = 8 ∧ ((seqR words (rd0 words key) N).found, (seqR words (rd0 words key) N).val) = aAP (getP (allP words l) key) := fun h => by
    unfold aAS rJ at h
    rw [hch] at h
    refine aSq hl (by omega) ?_
    by_cases hc : eV words = true ∧ mZ words ((some l).getD []) key 300 (words.getD 3 0) = true
    · exact hc.2
    · rw [if_neg hc] at h; exact absurd rfl h
  have hst : ∀ k, _ := fun k => aLc hw hi _ (aIm (w := words) hfew k)
  have hnx : ∀ k, iL words (seqR words (rd0 words key) k) = seqR words (rd0 words key) (k + 1) := fun _ => rfl
  have hend : ∀ k N, k ≤ N → (seqR words (rd0 words key) k).phase = 8 → seqR words (rd0 words key) N = seqR words (rd0 words key) k := fun k N hk h => aDA h hk
  have h0 : seqR words (rd0 words key) 0 = rd0 words key := rfl
  have hnm := aNg hw h16
  generalize seqR words (rd0 words key) = f at *
  generalize rd0 words key = r0 at *
  generalize allP words l = P at *
  obtain ⟨r1, r2, r3, r4, ⟨s1, s2, s3, s4, s5⟩, r5, r6⟩ := r0
  by_cases hz : aAS words key = 0
  · simp only [hp, hbg, hz, Rd.V, Sk.V, decide_false, decide_true, aA, aA, gq, reduceEq, reduceLT, reduceLE, implies_true, reduceCtorEq, if_true, if_false, go_sem, reduceEqDiff, Nat.reduceLT, reduceAdd, reduceSub, reduceLeDiff, reduceReplicate, reduceToNat]
    exact ⟨hr, hS, rfl⟩
  have hfound := hfound hz
  simp only [hp, hbg, hz, hleaves, hnm, memV, Rd.V, Sk.V, decide_false, decide_true, aA, aA, gq, reduceEq, reduceLT, reduceLE, implies_true, reduceCtorEq, if_true, if_false, go_sem, reduceEqDiff, Nat.reduceLT, reduceAdd, reduceSub, reduceLeDiff, reduceReplicate, reduceToNat]
  refine ⟨hr, hS, hS, hr, ?_⟩
  obtain ⟨N, hN⟩ : ∃ N : Nat, N = 20 * l.length + 20 + words.length / 16 := ⟨_, rfl⟩
  have hfound := hfound N (by omega)
  have hbd : IntKind.i64.wrap (IntKind.i64.wrap (IntKind.i64.wrap (20 * (l.length : Int)) + 20) + IntKind.i64.wrap ((words.length : Int).tdiv 16)) = (N : Int) := by
    rw [w64 (n := 20 * (l.length : Int)) (by omega) (by omega), w64 (n := 20 * (l.length : Int) + 20) (by omega) (by omega), aNP (by omega), w64 (by omega) (by omega)]
    omega
  obtain ⟨v, is, hgv, hvi⟩ : ∃ v is, getV P key = .tup [.str v, .bool is] ∧ aAP (getP P key) = (is, v) := by
    unfold getV
    cases getP P key with
    | none => exact ⟨_, _, rfl, rfl⟩
    | some x => exact ⟨_, _, rfl, rfl⟩
  rw [hvi] at hfound
  have hrP : roomy P.length := by unfold roomy; omega
  obtain ⟨Z, hZ⟩ : ∃ Z, f N = Z := ⟨_, rfl⟩
  have hend : ∀ k, k ≤ N → (f k).phase = 8 → Z = f k := fun k h1 h2 => hZ ▸ hend k N h1 h2
  rw [hZ] at hfound
  obtain ⟨z1, z2, z3, z4, ⟨v1, v2, v3, v4, v5⟩, z5, z6⟩ := Z
  simp only [Prod.mk.injEq] at hfound
  obtain ⟨rfl, rfl, rfl⟩ := hfound
  unfold dX.L1
  refine lA (σ := Nat) (fun k => .int .i64 k) (fun k => [.box (f k).V, .box (memV words words [])]) (fun k => N - k) (fun k => k ≤ N) 0 rfl (by rw [h0]; rfl) (Nat.zero_le _) ?_
  intro I back k hkN
  simp only
  obtain ⟨hst, hsv⟩ := hst k
  have hb : k < N → _ := fun h => @back (N - k) _ _ (k + 1) (by omega) rfl rfl (by omega)
  have hend := hend k hkN
  rw [hnx] at hsv
  clear back hnx
  by_cases hkn : k < N
  · have d1 : decide ((k : Int) < (N : Int)) = true := decide_eq_true (by omega)
    generalize f (k + 1) = y at *
    generalize f k = x at *
    obtain ⟨x1, x2, x3, x4, ⟨y1, y2, y3, y4, y5⟩, x5, x6⟩ := x
    simp only at hst hend
    by_cases h8 : x2 = 8
    · subst h8
      have hend := hend rfl
      clear hb hst hsv
      simp only [Rd.mk.injEq, Sk.mk.injEq] at hend
      obtain ⟨rfl, _, rfl, rfl, ⟨rfl, rfl, rfl, rfl, rfl⟩, rfl, rfl⟩ := hend
      simp only [iI.C, hgv, bZ.C, Rd.V, Sk.V, memV, hbd, d1, decide_false, decide_true, aA, aA, gq, reduceEq, reduceLT, reduceLE, implies_true, reduceCtorEq, if_true, if_false, go_sem, reduceEqDiff, Nat.reduceLT, reduceAdd, reduceSub, reduceLeDiff, reduceReplicate, reduceToNat]
      exact ⟨hrP, hr, hr, rfl⟩
    · have hb := hb hkn
      obtain ⟨a1, a2, a3, a4, ⟨b1, b2, b3, b4, b5⟩, a5, a6⟩ := y
      simp only [fT.C, hsv, Mm.V, Rd.V, Sk.V, memV, hbd, d1, h8, eQ (show k < 4611686018427387904 by omega), decide_false, decide_true, aA, aA, gq, reduceEq, reduceLT, reduceLE, implies_true, reduceCtorEq, if_true, if_false, go_sem, reduceEqDiff, Nat.reduceLT, reduceAdd, reduceSub, reduceLeDiff, reduceReplicate, reduceToNat] at hb ⊢
      exact ⟨hst, hb⟩
  · obtain rfl : k = N := by omega
    have d1 : decide ((k : Int) < (k : Int)) = false := decide_eq_false (by omega)
    clear hb hend hst hsv
    rw [hZ]
    simp only [iI.C, hgv, bZ.C, Rd.V, Sk.V, memV, hbd, d1, decide_false, decide_true, aA, aA, gq, reduceEq, reduceLT, reduceLE, implies_true, reduceCtorEq, if_true, if_false, go_sem, reduceEqDiff, Nat.reduceLT, reduceAdd, reduceSub, reduceLeDiff, reduceReplicate, reduceToNat]
    exact ⟨hrP, hr, hr, rfl⟩
theorem ReadAlone_ok : Ok Tryz.prog qT := bQ (by simpa using ⟨cK.spec, fN.spec, fD.spec, cE.spec, dY.spec, gW.spec, fT.spec, iI.spec, bZ.spec⟩) (by simp) _
theorem ReadAlone_law (words : Lst) (key : bE) (k_words : words.kind = (.int .i64)) (w_words : wfL words) (n_words : words.len ≤ maxLen) : funW qT Tryz.f7 [(.sl false words), (.str key)] [] Told := by
  obtain ⟨words, rfl⟩ := aIN k_words
  rw [qT, dX.eq]
  exact aGT words key w_words n_words
end Lam
