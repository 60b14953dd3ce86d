/- What functions of the program come to, each proved from its code. -/
import Derived.Test.YtmbmfnmjjelmkabGreatLm3
import Derived.Attr
import Derived.KernelRfl
import Derived.Test.YtmbmfnmjjelmkabGreatProg
import Derived.WideLaws
set_option linter.unusedVariables false
set_option linter.unusedSimpArgs false
set_option linter.unnecessarySimpa false
set_option linter.unusedSectionVars false
open Nat (reduceEqDiff reduceAdd reduceSub reduceLeDiff)
open Int (reduceToNat reduceEq reduceLE reduceLT)
open List (reduceReplicate)
set_option maxRecDepth 20000
namespace Lam
open Go
@[go_sem] theorem aVC (f : FuncId) (vs : List AV) : mM [] f vs = none := (rfl)
@[go_sem] theorem aVD (f : FuncId) (Y : Con) (a : List AV) (h : List AObj) (K' : AOut → List AObj → Prop) : qC [] f Y a h K' = False := (rfl)
@[go_sem] theorem aSk (f g : FuncId) (C : Con → Con) (r : List (FuncId × (Con → Con))) : qC ((g, C) :: r) f = if f = g then C else qC r f := by
  by_cases h : f = g
  · subst h; simp [qC]
  · have : Nat.beq f g = false := by rw [Bool.eq_false_iff]; intro e; exact h (Nat.eq_of_beq_eq_true e)
    simp [qC, this, h]
@[go_sem] theorem aSl (g f : FuncId) (C : aE) (r : List (FuncId × aE)) : mM ((g, C) :: r) f = if f = g then C else mM r f := by
  by_cases h : f = g
  · subst h; simp [mM]
  · have : Nat.beq f g = false := by rw [Bool.eq_false_iff]; intro e; exact h (Nat.eq_of_beq_eq_true e)
    simp [mM, this, h]
@[go_sem] theorem aVE (f : FuncId) (vs : List AV) (h : List AObj) (K : AOut → List AObj → Prop) : nZ [] f vs h K = False := (rfl)
@[go_sem] theorem aSm (g f : FuncId) (C : Con) (r : List (FuncId × Con)) : nZ ((g, C) :: r) f = if f = g then C else nZ r f := by
  by_cases h : f = g
  · subst h; simp [nZ]
  · have : Nat.beq f g = false := by rw [Bool.eq_false_iff]; intro e; exact h (Nat.eq_of_beq_eq_true e)
    simp [nZ, this, h]
theorem w64 {n : Int} (h1 : -9223372036854775808 ≤ n) (h2 : n < 9223372036854775808) : IntKind.i64.wrap n = n := by rw [IntKind.wrap_i64]; omega
theorem aGo (n : Int) : 0 ≤ IntKind.u8.wrap n ∧ IntKind.u8.wrap n < 256 := by simp [IntKind.wrap, IntKind.bits, IntKind.signed]; omega
theorem aKC (n : Int) : 0 ≤ IntKind.u64.wrap n ∧ IntKind.u64.wrap n < 18446744073709551616 := by simp [IntKind.wrap, IntKind.bits, IntKind.signed]; omega
theorem aAt {n : Int} (h1 : 0 ≤ n) (h2 : n < 18446744073709551616) : IntKind.u64.wrap n = n := by simp [IntKind.wrap, IntKind.bits, IntKind.signed]; omega
abbrev J2 := AV → AV → List AObj → Prop
@[congr] theorem aPC {α : Type} {A A' : α → Prop} {k : α} (e : ∀ J, A J = A' J) : aL A k = aL A' k := by unfold aL; exact e k
theorem aA {α : Type} (A : α → Prop) (k : α) : aL A k = A k := (rfl)
section
variable (p q : Bool) (S : Prop) (h : List AObj) (F : AV → List AObj → Prop)
@[go_sem] theorem aYt : aL (fun J : J2 => bC (.bool p) true (J (.bool true) (.bool q) h) (J (.bool false) .und h)) (fun t v h' => runD (bS t v (.bool false)) h' F) = F (.bool (p && q)) h := by
  cases p <;> simp [aL, bC, bS, pD, runD]
@[go_sem] theorem aSn : aL (fun J : J2 => bC (.bool p) true (S ∧ J (.bool true) (.bool q) h) (J (.bool false) .und h)) (fun t v h' => runD (bS t v (.bool false)) h' F) = ((p = true → S) ∧ F (.bool (p && q)) h) := by
  cases p <;> simp [aL, bC, bS, pD, runD]
@[go_sem] theorem aZA : aL (fun J : J2 => bC (.bool p) false (J (.bool false) (.bool q) h) (J (.bool true) .und h)) (fun t v h' => runD (bS t (.bool true) v) h' F) = F (.bool (p || q)) h := by
  cases p <;> simp [aL, bC, bS, pD, runD]
@[go_sem] theorem aVF : aL (fun J : J2 => bC (.bool p) false (S ∧ J (.bool false) (.bool q) h) (J (.bool true) .und h)) (fun t v h' => runD (bS t (.bool true) v) h' F) = ((p = false → S) ∧ F (.bool (p || q)) h) := by
  cases p <;> simp [aL, bC, bS, pD, runD]
variable (S2 S3 S4 S5 : Prop)
@[go_sem] theorem aPD : aL (fun J : J2 => bC (.bool p) true (S ∧ S2 ∧ J (.bool true) (.bool q) h) (J (.bool false) .und h)) (fun t v h' => runD (bS t v (.bool false)) h' F) = ((p = true → S ∧ S2) ∧ F (.bool (p && q)) h) := by
  cases p <;> simp [aL, bC, bS, pD, runD, and_assoc]
@[go_sem] theorem aSo : aL (fun J : J2 => bC (.bool p) false (S ∧ S2 ∧ J (.bool false) (.bool q) h) (J (.bool true) .und h)) (fun t v h' => runD (bS t (.bool true) v) h' F) = ((p = false → S ∧ S2) ∧ F (.bool (p || q)) h) := by
  cases p <;> simp [aL, bC, bS, pD, runD, and_assoc]
@[go_sem] theorem aPE : aL (fun J : J2 => bC (.bool p) true (S ∧ S2 ∧ S3 ∧ J (.bool true) (.bool q) h) (J (.bool false) .und h)) (fun t v h' => runD (bS t v (.bool false)) h' F) = ((p = true → S ∧ S2 ∧ S3) ∧ F (.bool (p && q)) h) := by
  cases p <;> simp [aL, bC, bS, pD, runD, and_assoc]
@[go_sem] theorem aSp : aL (fun J : J2 => bC (.bool p) false (S ∧ S2 ∧ S3 ∧ J (.bool false) (.bool q) h) (J (.bool true) .und h)) (fun t v h' => runD (bS t (.bool true) v) h' F) = ((p = false → S ∧ S2 ∧ S3) ∧ F (.bool (p || q)) h) := by
  cases p <;> simp [aL, bC, bS, pD, runD, and_assoc]
@[go_sem] theorem aPF : aL (fun J : J2 => bC (.bool p) true (S ∧ S2 ∧ S3 ∧ S4 ∧ J (.bool true) (.bool q) h) (J (.bool false) .und h)) (fun t v h' => runD (bS t v (.bool false)) h' F) = ((p = true → S ∧ S2 ∧ S3 ∧ S4) ∧ F (.bool (p && q)) h) := by
  cases p <;> simp [aL, bC, bS, pD, runD, and_assoc]
@[go_sem] theorem aSq : aL (fun J : J2 => bC (.bool p) false (S ∧ S2 ∧ S3 ∧ S4 ∧ J (.bool false) (.bool q) h) (J (.bool true) .und h)) (fun t v h' => runD (bS t (.bool true) v) h' F) = ((p = false → S ∧ S2 ∧ S3 ∧ S4) ∧ F (.bool (p || q)) h) := by
  cases p <;> simp [aL, bC, bS, pD, runD, and_assoc]
@[go_sem] theorem aPG : aL (fun J : J2 => bC (.bool p) true (S ∧ S2 ∧ S3 ∧ S4 ∧ S5 ∧ J (.bool true) (.bool q) h) (J (.bool false) .und h)) (fun t v h' => runD (bS t v (.bool false)) h' F) = ((p = true → S ∧ S2 ∧ S3 ∧ S4 ∧ S5) ∧ F (.bool (p && q)) h) := by
  cases p <;> simp [aL, bC, bS, pD, runD, and_assoc]
@[go_sem] theorem aSr : aL (fun J : J2 => bC (.bool p) false (S ∧ S2 ∧ S3 ∧ S4 ∧ S5 ∧ J (.bool false) (.bool q) h) (J (.bool true) .und h)) (fun t v h' => runD (bS t (.bool true) v) h' F) = ((p = false → S ∧ S2 ∧ S3 ∧ S4 ∧ S5) ∧ F (.bool (p || q)) h) := by
  cases p <;> simp [aL, bC, bS, pD, runD, and_assoc]
end
theorem iG {α : Type} (l : List α) (k : Nat) (d : α) (h : k < l.length) : l.take (k + 1) = l.take k ++ [l.getD k d] := by
  rw [List.take_add_one, List.getD_eq_getElem?_getD, List.getElem?_eq_getElem h]; rfl
theorem kB {α : Type} (l : List α) (k : Nat) (d : α) (h : k < l.length) : l.getD k d ∈ l := by
  rw [List.getD_eq_getElem?_getD, List.getElem?_eq_getElem h]; exact List.getElem_mem h
theorem aOf (n : Nat) : (n : Int).tdiv 16 = ((n / 16 : Nat) : Int) := rfl
theorem aMF (n : Nat) : (n : Int).tdiv 8 = ((n / 8 : Nat) : Int) := rfl
attribute [go_sem] Bool.true_or Bool.false_or Bool.or_false Bool.or_true Bool.and_false Bool.false_and beq_self_eq_true
theorem aSs {n : Int} (h : (Lit.int .u8 n).wf = true) : 0 ≤ n ∧ n < 256 := by
  simp [Lit.wf, IntKind.min, IntKind.max, IntKind.signed, IntKind.bits] at h; omega
theorem aSt {n : Int} (h : (Lit.int .i64 n).wf = true) : -9223372036854775808 ≤ n ∧ n < 9223372036854775808 := by
  simp [Lit.wf, IntKind.min, IntKind.max, IntKind.signed, IntKind.bits] at h; omega
end Lam
namespace Lam
open Go
section
variable {σ : Type}
abbrev LB := Nat → List AV → List AObj → Prop
theorem lP {B : LB → Nat → List AObj → AV → Prop} {lv : List AV} {h0 : List AObj} (V0 : σ → AV) (H : σ → List AObj) (M : σ → Nat) (Q : σ → Prop) (s0 : σ) (hv : lv = [V0 s0]) (hh : h0 = H s0) (q0 : Q s0)
    (step : ∀ (I : LB), (∀ {n : Nat} {lv : List AV} {h : List AObj} (s : σ), M s < n → lv = [V0 s] → h = H s → Q s → ∃ m, m < n ∧ I m lv h) → ∀ s, Q s → B I (M s) (H s) (V0 s)) : ∃ I : LB, (∃ n, I n lv h0) ∧ ∀ n h, ∀ t0, I n [t0] h → B I n h t0 := by
  refine ⟨fun m lv h => ∃ s, m = M s ∧ lv = [V0 s] ∧ h = H s ∧ Q s, ⟨_, s0, rfl, hv, hh, q0⟩, ?_⟩
  rintro n h t0 ⟨s, rfl, e, rfl, q⟩
  cases e
  exact step _ (fun s hm hv hh q => ⟨_, hm, s, rfl, hv, hh, q⟩) s q
theorem qD {B : LB → Nat → List AObj → AV → AV → Prop} {lv : List AV} {h0 : List AObj} (V0 V1 : σ → AV) (H : σ → List AObj) (M : σ → Nat) (Q : σ → Prop) (s0 : σ) (hv : lv = [V0 s0, V1 s0]) (hh : h0 = H s0) (q0 : Q s0)
    (step : ∀ (I : LB), (∀ {n : Nat} {lv : List AV} {h : List AObj} (s : σ), M s < n → lv = [V0 s, V1 s] → h = H s → Q s → ∃ m, m < n ∧ I m lv h) → ∀ s, Q s → B I (M s) (H s) (V0 s) (V1 s)) : ∃ I : LB, (∃ n, I n lv h0) ∧ ∀ n h, ∀ t0 t1, I n [t0, t1] h → B I n h t0 t1 := by
  refine ⟨fun m lv h => ∃ s, m = M s ∧ lv = [V0 s, V1 s] ∧ h = H s ∧ Q s, ⟨_, s0, rfl, hv, hh, q0⟩, ?_⟩
  rintro n h t0 t1 ⟨s, rfl, e, rfl, q⟩
  cases e
  exact step _ (fun s hm hv hh q => ⟨_, hm, s, rfl, hv, hh, q⟩) s q
theorem aSu {B : LB → Nat → List AObj → AV → AV → AV → AV → AV → Prop} {lv : List AV} {h0 : List AObj} (V0 V1 V2 V3 V4 : σ → AV) (H : σ → List AObj) (M : σ → Nat) (Q : σ → Prop) (s0 : σ) (hv : lv = [V0 s0, V1 s0, V2 s0, V3 s0, V4 s0]) (hh : h0 = H s0) (q0 : Q s0)
    (step : ∀ (I : LB), (∀ {n : Nat} {lv : List AV} {h : List AObj} (s : σ), M s < n → lv = [V0 s, V1 s, V2 s, V3 s, V4 s] → h = H s → Q s → ∃ m, m < n ∧ I m lv h) → ∀ s, Q s → B I (M s) (H s) (V0 s) (V1 s) (V2 s) (V3 s) (V4 s)) : ∃ I : LB, (∃ n, I n lv h0) ∧ ∀ n h, ∀ t0 t1 t2 t3 t4, I n [t0, t1, t2, t3, t4] h → B I n h t0 t1 t2 t3 t4 := by
  refine ⟨fun m lv h => ∃ s, m = M s ∧ lv = [V0 s, V1 s, V2 s, V3 s, V4 s] ∧ h = H s ∧ Q s, ⟨_, s0, rfl, hv, hh, q0⟩, ?_⟩
  rintro n h t0 t1 t2 t3 t4 ⟨s, rfl, e, rfl, q⟩
  cases e
  exact step _ (fun s hm hv hh q => ⟨_, hm, s, rfl, hv, hh, q⟩) s q
end
section
variable {A B : Prop}
theorem aLK : bC (.bool true) true A B = A := by simp [nW]
theorem aGp : bC (.bool true) false A B = B := by simp [nW]
theorem aLL : bC (.bool false) true A B = B := by simp [nW]
theorem aLM : bC (.bool false) false A B = A := by simp [nW]
end
theorem fA {k : Nat} (h : k < 4611686018427387904) : IntKind.i64.wrap ((k : Int) + 1) = ((k + 1 : Nat) : Int) := by rw [w64 (by omega) (by omega)]; rfl
theorem wK {α : Type} (l : List α) (k : Nat) (d : α) (h : k < l.length) : l.drop k = l.getD k d :: l.drop (k + 1) := by
  rw [List.drop_eq_getElem_cons h, List.getD_eq_getElem?_getD, List.getElem?_eq_getElem h]; rfl
theorem aBp {α : Type} (a b : List α) (k : Nat) (d : α) (h : a.length ≤ k) : (a ++ b).getD k d = b.getD (k - a.length) d := by
  rw [List.getD_eq_getElem?_getD, List.getElem?_append_right h, List.getD_eq_getElem?_getD]
theorem qL {α : Type} (l : List α) {n : Nat} (h : l.length ≤ n) : l.take n = l := List.take_of_length_le h
theorem aMG {α : Type} (d : α) {a b : List α} (hl : a.length = b.length) (h : ∀ i, i < a.length → a.getD i d = b.getD i d) : a = b := by
  apply List.ext_getElem hl
  intro i h1 h2
  have := h i h1
  rw [List.getD_eq_getElem?_getD, List.getD_eq_getElem?_getD, List.getElem?_eq_getElem h1, List.getElem?_eq_getElem h2] at this
  exact this
theorem oM {α : Type} {A : α → Prop} {k : α} (h : ∀ k', k' = k → aL A k') : aL A k := h k rfl
theorem gq : (∀ A B : Prop, bC (.bool true) true A B = A) ∧ (∀ A B : Prop, bC (.bool true) false A B = B) ∧ (∀ A B : Prop, bC (.bool false) true A B = B) ∧ (∀ A B : Prop, bC (.bool false) false A B = A) ∧
    (∀ h : Decidable False, @decide False h = false) ∧ (∀ h : Decidable True, @decide True h = true) ∧ ((!false) = true) ∧ ((!true) = false) ∧ (∀ b : Bool, (!!b) = b) ∧ ((¬ True) = False) ∧ ((¬ False) = True) ∧ (∀ p : Prop, (True → p) = p) ∧ (∀ p : Prop, (False → p) = True) ∧
    (∀ p : Prop, (p ∧ True) = p) ∧ (∀ p : Prop, (True ∧ p) = p) ∧ (∀ b : Bool, (b && b) = b) ∧ (∀ b : Bool, (b || b) = b) ∧ (∀ b : Bool, (b && true) = b) ∧ (∀ b : Bool, (true && b) = b) ∧ ((false = true) = False) :=
  ⟨fun _ _ => aLK, fun _ _ => aGp, fun _ _ => aLL, fun _ _ => aLM, decide_false, decide_true, Bool.not_false, Bool.not_true, Bool.not_not, not_true_eq_false, not_false_eq_true, fun _ => true_implies _, fun _ => false_implies _, and_true, true_and, Bool.and_self, Bool.or_self, Bool.and_true, Bool.true_and, Bool.false_eq_true⟩
end Lam
namespace Lam
open Go
/-! ### Memories -/
def memV (vol per : List Int) (pend : List Pend) : AV := .agg [.sl false (.ints .i64 vol), .sl false (.ints .i64 per), .sl false (.pends pend)]
attribute [go_sem] memV
def gZ (at_ : Int) : Int := IntKind.i64.wrap (at_.tdiv 8)
def szB (n : Int) : Bool := decide (n ≤ 4096) && decide (n.tmod 8 = 0)

def badB (p : Pend) (n : Nat) (o : Int → Bool) : Bool := decide (p.at_ < 0) || decide ((n : Int) ≤ p.at_) || (p.fl && o (gZ p.at_))
def yU (p : Pend) (o : Int → Bool) : Int → Bool := fun j => if j = gZ p.at_ then (o (gZ p.at_) || !p.fl) else o j
def chk : List Pend → List Int → (Int → Bool) → Option (List Int)
  | [], l, _ => some l
  | p :: r, l, o => match badB p l.length o with
    | true => none
    | false => chk r (l.set p.at_.toNat p.val) (yU p o)
def nA (vol per : List Int) (pend : List Pend) : Bool := decide (vol.length = per.length) && szB vol.length && decide (chk pend per (fun _ => false) = some vol)
def kP (vol per : List Int) (pend : List Pend) : Prop := roomy vol.length ∧ roomy per.length ∧ roomy pend.length
def mO (vol per : List Int) (pend : List Pend) (at_ : Int) : Bool := decide (0 ≤ at_) && decide (at_ < (vol.length : Int)) && nA vol per pend
def oN (vol : List Int) (line : Int) : Int := if decide (line < 0) || decide (((vol.length / 8 : Nat) : Int) ≤ line) then -1 else line * 8
def putM (vol per : List Int) (pend : List Pend) (at_ val : Int) : AV :=
  .tup [memV (if mO vol per pend at_ = true then vol.set at_.toNat val else vol) per (if mO vol per pend at_ = true then pend ++ [⟨at_, val, false⟩] else pend), .int .i64 (if mO vol per pend at_ = true then 0 else 40)]
def gN (line : Int) (pend : List Pend) : List Pend := pend.map fun p => if gZ p.at_ = line then { p with fl := true } else p
def aAu (vol per : List Int) (pend : List Pend) (line : Int) : AV :=
  .tup [memV vol per (if mO vol per pend (oN vol line) = true then gN line pend else pend), .int .i64 (if mO vol per pend (oN vol line) = true then 0 else 40)]
def lG (f : Pend → Bool) : List Pend → List Int → List Int
  | [], per => per
  | p :: r, per => lG f r (match f p with | true => per.set p.at_.toNat p.val | false => per)
def lZ (f : Pend → Bool) (pend : List Pend) : List Pend := pend.filter fun p => !f p
theorem aAv (f : Pend → Bool) : ∀ (l : List Pend) (per : List Int), (lG f l per).length = per.length
  | [], per => rfl
  | p :: r, per => by
    simp only [lG]
    rw [aAv f r]
    split <;> simp
theorem aDj (f : Pend → Bool) (p : Pend) : ∀ (l : List Pend) (per : List Int), lG f (l ++ [p]) per = match f p with | true => (lG f l per).set p.at_.toNat p.val | false => lG f l per
  | [], per => by simp only [List.nil_append, lG]
  | q :: r, per => by simp only [List.cons_append, lG]; exact aDj f p r _
theorem aJe (f : Pend → Bool) (p : Pend) (l : List Pend) : lZ f (l ++ [p]) = match f p with | true => lZ f l | false => lZ f l ++ [p] := by
  unfold lZ
  rw [List.filter_append]
  cases h : f p <;> simp [h]
theorem aEE : ∀ (l : List Pend) (w : List Int) (o : Int → Bool) {v : List Int}, chk l w o = some v → (∀ p ∈ l, 0 ≤ p.at_ ∧ p.at_ < (w.length : Int)) ∧ v.length = w.length
  | [], w, o, v, h => by simp only [chk, Option.some.injEq] at h; subst h; exact ⟨fun p hp => (by cases hp), rfl⟩
  | p :: r, w, o, v, h => by
    simp only [chk] at h
    split at h
    · cases h
    · rename_i hb
      obtain ⟨c1, c2⟩ := aEE r _ _ h
      rw [List.length_set] at c1 c2
      refine ⟨fun q hq => ?_, c2⟩
      rcases List.mem_cons.1 hq with rfl | hq
      · simp only [badB, Bool.or_eq_false_iff, decide_eq_false_iff_not] at hb
        omega
      · exact c1 q hq
theorem aBC {vol per : List Int} {pend : List Pend} (h : nA vol per pend = true) : vol.length = per.length ∧ szB vol.length = true ∧ chk pend per (fun _ => false) = some vol := by
  simp only [nA, Bool.and_eq_true, decide_eq_true_eq] at h
  exact ⟨h.1.1, h.1.2, h.2⟩
theorem aHA {vol per : List Int} {pend : List Pend} (h : nA vol per pend = true) : ∀ p ∈ pend, 0 ≤ p.at_ ∧ p.at_ < (per.length : Int) := (aEE _ _ _ (aBC h).2.2).1
def fFl (p : Pend) : Bool := p.fl
def fLn (line : Int) (p : Pend) : Bool := decide (gZ p.at_ = line)
def aDk (f : Pend → Bool) (ok : Bool) (vol per : List Int) (pend : List Pend) : AV :=
  .tup [memV vol (if ok = true then lG f pend per else per) (if ok = true then lZ f pend else pend), .int .i64 (if ok = true then 0 else 40)]
theorem aKD {a : Int} (h0 : 0 ≤ a) (h1 : a ≤ 1099511627776) : gZ a = a / 8 := by
  unfold gZ
  rw [Int.tdiv_eq_ediv_of_nonneg h0]
  exact w64 (by omega) (by omega)

theorem aLN {a b : List Int} (hl : a.length = b.length) (h : ∀ i, i < a.length → a.getD i 0 = b.getD i 0) : a = b := by
  apply List.ext_getElem hl
  intro i h1 h2
  have := h i h1
  rw [List.getD_eq_getElem?_getD, List.getD_eq_getElem?_getD, List.getElem?_eq_getElem h1, List.getElem?_eq_getElem h2] at this
  exact this
theorem vQ (l : List Int) (i j : Nat) (v : Int) : (l.set i v).getD j 0 = if i = j ∧ i < l.length then v else l.getD j 0 := by
  rw [List.getD_eq_getElem?_getD, List.getElem?_set, List.getD_eq_getElem?_getD]
  by_cases h : i = j
  · subst h
    by_cases h2 : i < l.length
    · simp [h2]
    · simp [h2]
  · simp [h]

def app : List Pend → List Int → List Int
  | [], w => w
  | p :: r, w => app r (w.set p.at_.toNat p.val)
theorem qS : ∀ (l : List Pend) (w : List Int), (app l w).length = w.length
  | [], w => rfl
  | p :: r, w => by rw [app, qS r, List.length_set]
theorem yV : ∀ (l r : List Pend) (w : List Int), app (l ++ r) w = app r (app l w)
  | [], r, w => rfl
  | p :: l, r, w => by rw [List.cons_append, app, yV l, app]
theorem aAw (f : Pend → Bool) : ∀ (l : List Pend) (w : List Int), lG f l w = app (l.filter f) w
  | [], w => rfl
  | p :: r, w => by
    simp only [lG]
    rw [aAw f r]
    cases h : f p <;> simp [h, app]

def seen (a : Nat) : List Pend → Int → Int
  | [], d => d
  | p :: r, d => seen a r (if p.at_.toNat = a then p.val else d)
theorem aBD (a : Nat) : ∀ (l r : List Pend) (d : Int), seen a (l ++ r) d = seen a r (seen a l d)
  | [], r, d => rfl
  | p :: l, r, d => by rw [List.cons_append, seen, aBD a l, seen]
theorem vR : ∀ (l : List Pend) (w : List Int) (a : Nat), a < w.length → (app l w).getD a 0 = seen a l (w.getD a 0)
  | [], w, a, h => rfl
  | p :: r, w, a, h => by
    rw [app, vR r _ a (by rw [List.length_set]; exact h), seen, vQ]
    congr 1
    by_cases e : p.at_.toNat = a
    · simp [e, h]
    · simp [e]
theorem aEF (a : Nat) : ∀ (l : List Pend) (d : Int), (∀ p ∈ l, p.at_.toNat ≠ a) → seen a l d = d
  | [], d, h => rfl
  | p :: r, d, h => by
    rw [seen, if_neg (h p (by simp)), aEF a r d fun q hq => h q (by simp [hq])]
theorem aBE (a : Nat) (f : Pend → Bool) : ∀ (l : List Pend) (d : Int), (∀ p ∈ l, p.at_.toNat = a → f p = true) → seen a (l.filter f) d = seen a l d
  | [], d, h => rfl
  | p :: r, d, h => by
    have ih := fun d => aBE a f r d fun q hq => h q (by simp [hq])
    cases hf : f p with
    | true => rw [List.filter_cons_of_pos hf, seen, seen, ih]
    | false =>
      rw [List.filter_cons_of_neg (by simp [hf]), ih, seen]
      have : ¬ p.at_.toNat = a := fun e => by have := h p (by simp) e; rw [hf] at this; cases this
      rw [if_neg this]
theorem aIh (a : Nat) (l : List Pend) (d : Int) : seen a (l.filter fun p => decide (p.at_.toNat = a)) d = seen a l d := aBE a _ l d fun p _ h => by simp [h]

theorem aAx {f : Pend → Bool} : ∀ {l : List Pend}, l.Pairwise (fun p q => f q = true → f p = true) → l.filter f ++ l.filter (fun p => !f p) = l
  | [], _ => rfl
  | p :: r, h => by
    rw [List.pairwise_cons] at h
    cases hf : f p with
    | true => rw [List.filter_cons_of_pos hf, List.filter_cons_of_neg (by simp [hf]), List.cons_append, aAx h.2]
    | false =>
      have hn : ∀ q ∈ r, f q = false := fun q hq => by
        cases e : f q with
        | false => rfl
        | true => rw [h.1 q hq e] at hf; cases hf
      rw [List.filter_cons_of_neg (by simp [hf]), List.filter_cons_of_pos (by simp [hf])]
      have e1 : r.filter f = [] := List.filter_eq_nil_iff.2 fun q hq => by simp [hn q hq]
      have e2 : r.filter (fun p => !f p) = r := List.filter_eq_self.2 fun q hq => by simp [hn q hq]
      rw [e1, e2]; rfl
def oO (f : Pend → Bool) (l : List Pend) : Prop := l.Pairwise fun p q => gZ p.at_ = gZ q.at_ → f q = true → f p = true
theorem aJf {p q : Pend} (hp : 0 ≤ p.at_) (hq : 0 ≤ q.at_) (h : p.at_.toNat = q.at_.toNat) : gZ p.at_ = gZ q.at_ := by
  have : p.at_ = q.at_ := by omega
  rw [this]
theorem aJg {f : Pend → Bool} {l : List Pend} (h0 : ∀ p ∈ l, 0 ≤ p.at_) (h : oO f l) (a : Nat) (d : Int) : seen a (l.filter fun p => !f p) (seen a (l.filter f) d) = seen a l d := by
  rw [← aBD, ← aIh a (_ ++ _), ← aIh a l]
  congr 1
  rw [List.filter_append, List.filter_filter, List.filter_filter]
  have hp : (l.filter fun p => decide (p.at_.toNat = a)).Pairwise fun p q => f q = true → f p = true := by
    refine (List.Pairwise.and_mem.1 (List.Pairwise.filter _ h)).imp ?_
    rintro p q ⟨hp, hq, hpq⟩ hf
    rw [List.mem_filter, decide_eq_true_eq] at hp hq
    exact hpq (aJf (h0 p hp.1) (h0 q hq.1) (by omega)) hf
  have := aAx hp
  rw [List.filter_filter, List.filter_filter] at this
  simpa [Bool.and_comm] using this

structure OkM (vol per : List Int) (pend : List Pend) : Prop where
  len : vol.length = per.length
  sz : vol.length ≤ 4096
  md : vol.length % 8 = 0
  rng : ∀ p ∈ pend, 0 ≤ p.at_ ∧ p.at_ < (per.length : Int)
  ord : oO (fun p => p.fl) pend
  eq : app pend per = vol

theorem aDU : ∀ (l : List Pend) (w v : List Int) (o : Int → Bool), chk l w o = some v ↔ (∀ p ∈ l, 0 ≤ p.at_ ∧ p.at_ < (w.length : Int)) ∧ oO (fun p => p.fl) l ∧ app l w = v ∧ ∀ q ∈ l, o (gZ q.at_) = true → q.fl = false
  | [], w, v, o => by simp [chk, oO, app]
  | p :: r, w, v, o => by
    simp only [chk]
    cases hb : badB p w.length o with
    | true =>
      simp only [reduceCtorEq, false_iff]
      rintro ⟨h1, h2, h3, h4⟩
      have := h1 p (by simp)
      simp only [badB, Bool.or_eq_true, decide_eq_true_eq, Bool.and_eq_true] at hb
      rcases hb with (hb | hb) | hb
      · omega
      · omega
      · have := h4 p (by simp) hb.2
        rw [hb.1] at this; cases this
    | false =>
      simp only
      rw [aDU r _ v (yU p o), List.length_set]
      simp only [badB, Bool.or_eq_false_iff, decide_eq_false_iff_not, Bool.and_eq_false_iff] at hb
      simp only [List.forall_mem_cons, oO, List.pairwise_cons, app]
      constructor
      · rintro ⟨h1, h2, h3, h4⟩
        refine ⟨⟨by omega, h1⟩, ⟨fun q hq hl hf => ?_, h2⟩, h3, fun ho => ?_, fun q hq ho => ?_⟩
        · cases e : p.fl with
          | true => rfl
          | false =>
            have := h4 q hq (by unfold yU; rw [if_pos hl.symm]; simp [e])
            rw [hf] at this; cases this
        · rcases hb.2 with h | h
          · exact h
          · rw [ho] at h; cases h
        · apply h4 q hq
          unfold yU
          split
          · rename_i e; rw [← e, ho]; rfl
          · exact ho
      · rintro ⟨⟨h0, h1⟩, ⟨h5, h2⟩, h3, h6, h4⟩
        refine ⟨h1, h2, h3, fun q hq ho => ?_⟩
        unfold yU at ho
        split at ho
        · rename_i e
          rw [Bool.or_eq_true] at ho
          rcases ho with ho | ho
          · exact h4 q hq (by rw [e]; exact ho)
          · cases e2 : q.fl with
            | false => rfl
            | true =>
              have := h5 q hq e.symm e2
              rw [this] at ho; cases ho
        · exact h4 q hq ho

theorem aAy {vol per : List Int} {pend : List Pend} : nA vol per pend = true ↔ OkM vol per pend := by
  constructor
  · intro h
    obtain ⟨h1, h2, h3⟩ := aBC h
    rw [aDU] at h3
    simp only [szB, Bool.and_eq_true, decide_eq_true_eq] at h2
    refine ⟨h1, by omega, ?_, h3.1, h3.2.1, h3.2.2.1⟩
    have := h2.2
    rw [Int.tmod_eq_emod_of_nonneg (by omega)] at this
    omega
  · intro h
    have h3 : chk pend per (fun _ => false) = some vol := by
      rw [aDU]
      exact ⟨h.rng, h.ord, h.eq, fun q _ hq => by cases hq⟩
    have hsz := h.sz
    have hmd := h.md
    simp only [nA, Bool.and_eq_true, decide_eq_true_eq, szB]
    refine ⟨⟨h.len, by omega, ?_⟩, h3⟩
    rw [Int.tmod_eq_emod_of_nonneg (by omega)]
    omega

theorem OkM.vol_at {vol per : List Int} {pend : List Pend} (h : OkM vol per pend) {a : Nat} (ha : a < per.length) : vol.getD a 0 = seen a pend (per.getD a 0) := by
  rw [← h.eq, vR pend per a ha]

theorem OkM.put {vol per : List Int} {pend : List Pend} (h : OkM vol per pend) {a v : Int} (h0 : 0 ≤ a) (h1 : a < (vol.length : Int)) : OkM (vol.set a.toNat v) per (pend ++ [⟨a, v, false⟩]) := by
  refine ⟨by rw [List.length_set]; exact h.len, by rw [List.length_set]; exact h.sz, by rw [List.length_set]; exact h.md, fun p hp => ?_, ?_, ?_⟩
  · rcases List.mem_append.1 hp with hp | hp
    · exact h.rng p hp
    · rw [List.mem_singleton] at hp; subst hp
      have := h.len
      exact ⟨h0, by show a < _; omega⟩
  · unfold oO
    rw [List.pairwise_append]
    refine ⟨h.ord, List.pairwise_singleton _ _, fun p hp q hq => ?_⟩
    rw [List.mem_singleton] at hq; subst hq
    intro _ hf; cases hf
  · rw [yV, h.eq]; rfl

theorem aEG (line : Int) : ∀ (l : List Pend) (w : List Int), app (gN line l) w = app l w
  | [], w => rfl
  | p :: r, w => by
    show app ((if gZ p.at_ = line then { p with fl := true } else p) :: gN line r) w = _
    rw [app, app, aEG line r]
    split <;> rfl
theorem OkM.flush {vol per : List Int} {pend : List Pend} (h : OkM vol per pend) (line : Int) : OkM vol per (gN line pend) := by
  refine ⟨h.len, h.sz, h.md, fun p hp => ?_, ?_, by rw [aEG]; exact h.eq⟩
  · obtain ⟨q, hq, rfl⟩ := List.mem_map.1 hp
    have := h.rng q hq
    split <;> exact this
  · unfold oO gN
    rw [List.pairwise_map]
    refine h.ord.imp ?_
    intro p q hpq
    by_cases e1 : gZ p.at_ = line <;> by_cases e2 : gZ q.at_ = line
    · rw [if_pos e1, if_pos e2]; intros; rfl
    · rw [if_pos e1, if_neg e2]; intros; rfl
    · rw [if_neg e1, if_pos e2]; intro e; exact absurd (e.trans e2) e1
    · rw [if_neg e1, if_neg e2]; exact hpq
theorem OkM.keep {vol per : List Int} {pend : List Pend} (h : OkM vol per pend) {f : Pend → Bool} (hf : oO f pend) : OkM vol (lG f pend per) (lZ f pend) := by
  rw [aAw]
  refine ⟨by rw [qS]; exact h.len, h.sz, h.md, fun p hp => ?_, List.Pairwise.filter _ h.ord, ?_⟩
  · rw [qS]; exact h.rng p (List.mem_filter.1 hp).1
  · apply aLN
    · rw [qS, qS]; exact h.len.symm
    intro i hi
    rw [qS, qS] at hi
    unfold lZ
    rw [vR _ _ _ (by rw [qS]; exact hi), vR _ _ _ hi, aJg (fun p hp => (h.rng p hp).1) hf, h.vol_at hi]
theorem OkM.fence {vol per : List Int} {pend : List Pend} (h : OkM vol per pend) : OkM vol (lG fFl pend per) (lZ fFl pend) := h.keep h.ord
def i64s (l : List Int) : Prop := ∀ x ∈ l, x < 9223372036854775808
def newM (l : List Int) : AV := .tup [memV (if szB l.length = true then l else []) (if szB l.length = true then l else []) [], .int .i64 (if szB l.length = true then 0 else 40)]
section
variable {vol per : List Int} {pend : List Pend} {a v line : Int} {f : Pend → Bool} {keep : List Int}
theorem aNi (h : mO vol per pend a = true) : putM vol per pend a v = .tup [memV (vol.set a.toNat v) per (pend ++ [⟨a, v, false⟩]), .int .i64 0] := by unfold putM; simp only [h, if_true]
theorem aKE (h : mO vol per pend (oN vol line) = true) : aAu vol per pend line = .tup [memV vol per (gN line pend), .int .i64 0] := by unfold aAu; simp only [h, if_true]
theorem aKF : aDk f true vol per pend = .tup [memV vol (lG f pend per) (lZ f pend), .int .i64 0] := rfl
theorem aEH : mO vol per pend a = true ↔ (0 ≤ a ∧ a < (vol.length : Int)) ∧ OkM vol per pend := by
  simp only [mO, Bool.and_eq_true, decide_eq_true_eq, aAy]
theorem OkM.small (h : OkM vol per pend) (hp : pend.length ≤ 1000000) : kP vol per pend := by
  have := h.sz; have := h.len
  unfold kP roomy; omega
theorem OkM.first (h : OkM vol per pend) (h0 : 0 ≤ line) (h1 : line < ((vol.length / 8 : Nat) : Int)) : oN vol line = line * 8 ∧ mO vol per pend (oN vol line) = true := by
  have e : oN vol line = line * 8 := by
    unfold oN
    rw [if_neg]
    simp only [Bool.or_eq_true, decide_eq_true_eq]; omega
  refine ⟨e, aEH.2 ⟨?_, h⟩⟩
  rw [e]; omega
theorem aJh (line : Int) (l : List Pend) : (gN line l).length = l.length := by simp [gN]
theorem aNj {l : List Int} (h : wfL (.ints .i64 l)) : i64s l := fun x hx => (aSt (h x hx)).2
end
theorem aOg {vol per : List Int} {pend : List Pend} (h : OkM vol per pend) {p : Pend} (hp : p ∈ pend) {i : Nat} : p.at_.toNat = i → fLn ((i : Int) / 8) p = true := by
  intro e
  have hr := h.rng p hp
  have := h.len
  have := h.sz
  unfold fLn
  rw [decide_eq_true_eq, aKD hr.1 (by omega)]
  omega
end Lam
namespace Lam
open Go

structure Mm where
  vol : List Int
  per : List Int
  pend : List Pend
  deriving DecidableEq
def Mm.V (m : Mm) : AV := memV m.vol m.per m.pend
attribute [go_sem] Mm.V
def Mm.ok (m : Mm) : Prop := OkM m.vol m.per m.pend
def Mm.okB (m : Mm) : Bool := nA m.vol m.per m.pend
theorem Mm.ok_iff {m : Mm} : m.okB = true ↔ m.ok := aAy
def mmay (x : Mic) (n : Int) : Bool := decide (0 ≤ x.at_) && decide (x.at_ < (if x.kind = 2 then IntKind.i64.wrap (n.tdiv 8) else if x.kind = 1 then n else 0)) && (decide (x.kind = 1) || decide (x.val = 0))
def aAz (n : Int) : Bool := decide (0 ≤ n) && decide (n ≤ 4096) && decide (n.tmod 8 = 0)
def aKG (l : List Mic) (n : Int) : Bool := aAz n && l.all (mmay · n)
def store (m : Mm) (a v : Int) : Mm := ⟨m.vol.set a.toNat v, m.per, m.pend ++ [⟨a, v, false⟩]⟩
def vD (m : Mm) (line : Int) : Mm := ⟨m.vol, lG fFl (gN line m.pend) m.per, lZ fFl (gN line m.pend)⟩
def jL (m : Mm) (x : Mic) : Mm := if x.kind = 1 then store m x.at_ x.val else vD m x.at_
def runS (m : Mm) (l : List Mic) : Mm := l.foldl jL m

theorem aLO (m : Mm) : runS m [] = m := rfl
theorem aAA (m : Mm) (x : Mic) (l : List Mic) : runS m (x :: l) = runS (jL m x) l := rfl
theorem aHB (m : Mm) (a b : List Mic) : runS m (a ++ b) = runS (runS m a) b := List.foldl_append
def MayN (x : Mic) (n : Nat) : Prop := (x.kind = 1 ∧ 0 ≤ x.at_ ∧ x.at_ < (n : Int)) ∨ (x.kind = 2 ∧ 0 ≤ x.at_ ∧ x.at_ < ((n / 8 : Nat) : Int) ∧ x.val = 0)
theorem aGq {x : Mic} {n : Nat} (hn : n ≤ 4096) : mmay x n = true ↔ MayN x n := by
  have e : IntKind.i64.wrap ((n : Int).tdiv 8) = ((n / 8 : Nat) : Int) := by rw [aMF]; exact w64 (by omega) (by omega)
  simp only [mmay, e, Bool.and_eq_true, decide_eq_true_eq, Bool.or_eq_true]
  unfold MayN
  by_cases h2 : x.kind = 2
  · rw [if_pos h2]; omega
  · rw [if_neg h2]
    by_cases h1 : x.kind = 1
    · rw [if_pos h1]; omega
    · rw [if_neg h1]; omega
theorem aKH (m : Mm) (a v : Int) : (store m a v).vol.length = m.vol.length := by simp [store]
theorem aEI (m : Mm) (x : Mic) : (jL m x).vol.length = m.vol.length := by unfold jL; split; exact aKH _ _ _; rfl
theorem aGr : ∀ (l : List Mic) (m : Mm), (runS m l).vol.length = m.vol.length
  | [], m => rfl
  | x :: l, m => by rw [aAA, aGr l, aEI]
theorem tF (m : Mm) (x : Mic) : (jL m x).per.length = m.per.length := by
  unfold jL; split
  · rfl
  · exact aAv _ _ _
theorem aJi {m : Mm} (h : m.ok) (l : Int) : (vD m l).ok := (OkM.flush h l).fence
theorem vS {m : Mm} (h : m.ok) {x : Mic} (hx : MayN x m.vol.length) : (jL m x).ok := by
  unfold jL
  rcases hx with ⟨hk, h0, h1⟩ | ⟨hk, _⟩
  · rw [if_pos hk]; exact OkM.put h h0 h1
  · rw [if_neg (by omega)]; exact aJi h _
theorem aIi : ∀ (l : List Mic) {m : Mm}, m.ok → (∀ x ∈ l, MayN x m.vol.length) → (runS m l).ok
  | [], m, h, _ => h
  | x :: l, m, h, hl => by
    rw [aAA]
    refine aIi l (vS h (hl x (by simp))) fun y hy => ?_
    rw [aEI]; exact hl y (by simp [hy])
theorem aAB : ∀ (l : List Mic) (m : Mm), (runS m l).pend.length ≤ m.pend.length + l.length
  | [], m => by simp [aLO]
  | x :: l, m => by
    rw [aAA]
    refine Nat.le_trans (aAB l _) ?_
    have : (jL m x).pend.length ≤ m.pend.length + 1 := by
      unfold jL
      split
      · simp [store]
      · refine Nat.le_trans (List.length_filter_le _ _) ?_
        simp [gN]
    simp only [List.length_cons]; omega

def gL (line : Int) (p : Pend) : Bool := p.fl || fLn line p
theorem aAC (line : Int) (f : Pend → Bool) (hf : ∀ p, f p = fFl p) : ∀ l : List Pend, (gN line l).filter f = (l.filter (gL line)).map fun p => if gZ p.at_ = line then { p with fl := true } else p
  | [] => rfl
  | p :: r => by
    have ih := aAC line f hf r
    show ((if gZ p.at_ = line then { p with fl := true } else p) :: gN line r).filter f = _
    by_cases e : gZ p.at_ = line
    · rw [if_pos e, List.filter_cons_of_pos (by rw [hf]; rfl), List.filter_cons_of_pos (by simp [gL, fLn, e]), ih, List.map_cons, if_pos e]
    · rw [if_neg e]
      cases h : p.fl with
      | true => rw [List.filter_cons_of_pos (by rw [hf]; exact h), List.filter_cons_of_pos (by simp [gL, h]), ih, List.map_cons, if_neg e]
      | false => rw [List.filter_cons_of_neg (by rw [hf]; simp [fFl, h]), List.filter_cons_of_neg (by simp [gL, fLn, h, e]), ih]
theorem aAD (m : Mm) (line : Int) : (vD m line).pend = m.pend.filter fun p => !gL line p := by
  show lZ fFl (gN line m.pend) = _
  unfold lZ
  induction m.pend with
  | nil => rfl
  | cons p r ih =>
    show ((if gZ p.at_ = line then { p with fl := true } else p) :: gN line r).filter _ = _
    by_cases e : gZ p.at_ = line
    · rw [if_pos e, List.filter_cons_of_neg (by simp [fFl]), List.filter_cons_of_neg (by simp [gL, fLn, e]), ih]
    · rw [if_neg e]
      cases h : p.fl with
      | true => rw [List.filter_cons_of_neg (by simp [fFl, h]), List.filter_cons_of_neg (by simp [gL, h]), ih]
      | false => rw [List.filter_cons_of_pos (by simp [fFl, h]), List.filter_cons_of_pos (by simp [gL, fLn, h, e]), ih]
theorem aIj (g : Pend → Pend) (hg : ∀ p, (g p).at_ = p.at_ ∧ (g p).val = p.val) : ∀ (l : List Pend) (w : List Int), app (l.map g) w = app l w
  | [], w => rfl
  | p :: r, w => by rw [List.map_cons, app, app, (hg p).1, (hg p).2, aIj g hg r]
theorem aHC (m : Mm) (line : Int) : (vD m line).per = app (m.pend.filter (gL line)) m.per := by
  show lG fFl (gN line m.pend) m.per = _
  rw [aAw, aAC line _ (fun _ => rfl), aIj]
  intro p; split <;> exact ⟨rfl, rfl⟩
theorem aHD (m : Mm) (line : Int) : (vD m line).pend.Sublist m.pend := by rw [aAD]; exact List.filter_sublist
/-! ### Steps whose lines are persisted as they are left: a crash leaves a beginning -/
def isS (x : Mic) : Bool := decide (x.kind = 1)
structure aJj (w : List Int) (m : Mm) (S : List Pend) (o : Option Int) : Prop where
  ok : m.ok
  cut : ∃ i, i ≤ S.length ∧ m.per = app (S.take i) w ∧ m.pend = S.drop i
  one : ∀ p ∈ m.pend, o = some (gZ p.at_) ∧ p.fl = false
  all : m.vol = app S w
theorem aJj.store {w : List Int} {m : Mm} {S : List Pend} {o : Option Int} (h : aJj w m S o) {x : Mic} (hk : x.kind = 1) (hx : MayN x m.vol.length) (ho : ∀ L, o = some L → gZ x.at_ = L) :
    aJj w (jL m x) (S ++ [⟨x.at_, x.val, false⟩]) (some (gZ x.at_)) := by
  have e : jL m x = Lam.store m x.at_ x.val := by unfold jL; rw [if_pos hk]
  refine ⟨vS h.ok hx, ?_, ?_, ?_⟩
  · obtain ⟨i, hi, h1, h2⟩ := h.cut
    refine ⟨i, by simp; omega, ?_, ?_⟩
    · rw [e, List.take_append_of_le_length hi]; exact h1
    · rw [e, List.drop_append_of_le_length hi, ← h2]; rfl
  · intro p hp
    rw [e] at hp
    rcases List.mem_append.1 hp with hp | hp
    · obtain ⟨h1, h2⟩ := h.one p hp
      exact ⟨by rw [ho _ h1], h2⟩
    · rw [List.mem_singleton] at hp; subst hp; exact ⟨rfl, rfl⟩
  · rw [e, yV, ← h.all]; rfl
/-! ### What is seen, and kept, of a eV -/
/-! ### A line's own -/
def aMH (x : Mic) : Int := if x.kind = 1 then gZ x.at_ else x.at_
def unfl (m : Mm) : Prop := ∀ p ∈ m.pend, p.fl = false
structure tG (L : Int) (m m' : Mm) : Prop where
  ok : m.ok
  ok' : m'.ok
  len : m.per.length = m'.per.length
  un : unfl m
  un' : unfl m'
  per : ∀ p : Nat, p < m.per.length → (p : Int) / 8 = L → m.per.getD p 0 = m'.per.getD p 0
  pend : m.pend.filter (fLn L) = m'.pend.filter (fLn L)
theorem aAE {m : Mm} (h : unfl m) (x : Mic) : unfl (jL m x) := by
  unfold jL
  split
  · intro p hp
    rcases List.mem_append.1 hp with hp | hp
    · exact h p hp
    · rw [List.mem_singleton] at hp; subst hp; rfl
  · intro p hp; exact h p ((aHD _ _).subset hp)
theorem aSv {m : Mm} (h : unfl m) (L : Int) : m.pend.filter (gL L) = m.pend.filter (fLn L) ∧ m.pend.filter (fun p => !gL L p) = m.pend.filter (fun p => !fLn L p) := by
  constructor <;> apply List.filter_congr <;> intro p hp <;> simp [gL, h p hp]
theorem aAF {m : Mm} (ok : m.ok) (un : unfl m) {x : Mic} {L : Int} : (jL m x).pend.filter (fLn L) = (if x.kind = 1 then m.pend.filter (fLn L) ++ (if gZ x.at_ = L then [⟨x.at_, x.val, false⟩] else []) else if x.at_ = L then [] else m.pend.filter (fLn L)) ∧
    ∀ p : Nat, p < m.per.length → (p : Int) / 8 = L → (jL m x).per.getD p 0 = if x.kind = 1 then m.per.getD p 0 else if x.at_ = L then seen p (m.pend.filter (fLn L)) (m.per.getD p 0) else m.per.getD p 0 := by
  unfold jL
  by_cases hk : x.kind = 1
  · rw [if_pos hk, if_pos hk]
    refine ⟨?_, fun p _ _ => by rw [if_pos hk]; rfl⟩
    show (m.pend ++ [_]).filter _ = _
    rw [List.filter_append]
    congr 1
    by_cases e : gZ x.at_ = L
    · rw [if_pos e, List.filter_cons_of_pos (show fLn L ⟨x.at_, x.val, false⟩ = true from decide_eq_true e)]; rfl
    · rw [if_neg e, List.filter_cons_of_neg (by unfold fLn; simpa using e)]; rfl
  · rw [if_neg hk, if_neg hk]
    obtain ⟨g1, g2⟩ := aSv un x.at_
    refine ⟨?_, fun p hp hL => ?_⟩
    · rw [aAD, g2, List.filter_filter]
      by_cases e : x.at_ = L
      · rw [if_pos e, e, List.filter_eq_nil_iff]
        intro p _; simp
      · rw [if_neg e]
        apply List.filter_congr
        intro p _
        unfold fLn
        by_cases e2 : gZ p.at_ = L
        · rw [e2, decide_eq_true rfl, decide_eq_false (fun h => e h.symm)]; rfl
        · rw [decide_eq_false e2]; rfl
    · rw [aHC, g1, vR _ _ _ hp, if_neg hk]
      by_cases e : x.at_ = L
      · rw [if_pos e, e]
      · rw [if_neg e, aEF]
        intro q hq e2
        obtain ⟨hq1, hq2⟩ := List.mem_filter.1 hq
        have := aOg ok hq1 e2
        unfold fLn at this hq2
        rw [decide_eq_true_eq] at this hq2
        rw [hL] at this
        exact e (hq2.symm.trans this)
theorem tG.same {L : Int} {m m' : Mm} (h : tG L m m') {x : Mic} (hx : MayN x m.vol.length) : tG L (jL m x) (jL m' x) := by
  obtain ⟨p1, p2⟩ := aAF h.ok h.un (x := x) (L := L)
  obtain ⟨q1, q2⟩ := aAF h.ok' h.un' (x := x) (L := L)
  have hlen : m.vol.length = m'.vol.length := by rw [OkM.len h.ok, OkM.len h.ok', h.len]
  refine ⟨vS h.ok hx, vS h.ok' (by rw [← hlen]; exact hx), by rw [tF, tF]; exact h.len, aAE h.un x, aAE h.un' x, fun p hp hL => ?_, by rw [p1, q1, h.pend]⟩
  rw [tF] at hp
  rw [p2 p hp hL, q2 p (by rw [← h.len]; exact hp) hL, h.per p hp hL, h.pend]
theorem tG.skip {L : Int} {m m' : Mm} (h : tG L m m') {x : Mic} (hx : MayN x m.vol.length) (hne : aMH x ≠ L) : tG L (jL m x) m' := by
  obtain ⟨p1, p2⟩ := aAF h.ok h.un (x := x) (L := L)
  unfold aMH at hne
  refine ⟨vS h.ok hx, h.ok', by rw [tF]; exact h.len, aAE h.un x, h.un', fun p hp hL => ?_, ?_⟩
  · rw [tF] at hp
    rw [p2 p hp hL, ← h.per p hp hL]
    by_cases hk : x.kind = 1
    · rw [if_pos hk]
    · rw [if_neg hk] at hne ⊢; rw [if_neg hne]
  · rw [p1, ← h.pend]
    by_cases hk : x.kind = 1
    · rw [if_pos hk] at hne ⊢
      rw [if_neg hne, List.append_nil]
    · rw [if_neg hk] at hne ⊢; rw [if_neg hne]
theorem tG.refl {L : Int} {m : Mm} (ok : m.ok) (un : unfl m) : tG L m m := ⟨ok, ok, rfl, un, un, fun _ _ _ => rfl, rfl⟩
end Lam
namespace Lam
open Go

def rD (b : Int) : Bool := decide (0 ≤ b) && decide (IntKind.i64.wrap (b + 16) ≤ 4096) && decide (b.tmod 16 = 0)
theorem yW {b : Int} (h : b ≤ 1099511627776) : rD b = true ↔ 0 ≤ b ∧ b ≤ 4080 ∧ b % 16 = 0 := by
  unfold rD
  simp only [Bool.and_eq_true, decide_eq_true_eq]
  constructor
  · rintro ⟨⟨h0, h1⟩, h2⟩
    rw [w64 (by omega) (by omega)] at h1
    rw [Int.tmod_eq_emod_of_nonneg h0] at h2
    omega
  · rintro ⟨h0, h1, h2⟩
    rw [w64 (by omega) (by omega), Int.tmod_eq_emod_of_nonneg h0]
    omega
def oP (base slot : Int) : Int := if (rD base && decide (0 ≤ slot) && decide (slot < 13)) = true then IntKind.i64.wrap (IntKind.i64.wrap (base + 3) + slot) else -1
theorem aGs {b s : Int} (hb : rD b = true) (h : b ≤ 1099511627776) (h0 : 0 ≤ s) (h1 : s < 13) : oP b s = b + 3 + s := by
  have := (yW h).1 hb
  unfold oP
  rw [hb, decide_eq_true h0, decide_eq_true h1]
  rw [if_pos (by rfl), w64 (n := b + 3) (by omega) (by omega), w64 (by omega) (by omega)]
def lt1 (n : Int) : Bool := decide (n < 1)
def idxI (p : Int → Bool) (l : List Int) : Int := if l.any p = true then (l.findIdx p : Nat) else -1
def upTo (l : List Int) : List Int := l.takeWhile fun w => !lt1 w
def mF (words : List Int) (base : Int) : List Int := if (rD base && decide (base + 16 ≤ (words.length : Int))) = true then upTo ((words.drop (base.toNat + 3)).take 13) else []
theorem aLP (l : List Int) : l.take (if idxI lt1 l < 0 then (l.length : Int) else idxI lt1 l).toNat = upTo l := by
  unfold idxI upTo
  induction l with
  | nil => rfl
  | cons a r ih =>
    rw [List.any_cons, List.findIdx_cons, List.takeWhile_cons]
    cases ha : lt1 a with
    | true => simp
    | false =>
      simp only [Bool.false_or, Bool.not_false, if_true, cond_false]
      cases hr : r.any lt1 with
      | true =>
        rw [hr] at ih
        simp only [if_true] at ih ⊢
        rw [if_neg (by omega)] at ih ⊢
        rw [← ih]
        simp
      | false =>
        rw [hr] at ih
        simp only [Bool.false_eq_true, if_false] at ih ⊢
        rw [if_pos (by omega)] at ih ⊢
        rw [← ih]
        simp
theorem aJk (p : Int → Bool) (l : List Int) : -1 ≤ idxI p l ∧ idxI p l ≤ (l.length : Int) := by
  unfold idxI
  split
  · have := List.findIdx_le_length (p := p) (xs := l)
    omega
  · omega

def plain : List Int → List Int
  | [] => []
  | [a] => [a]
  | a :: b :: r => if a = b then plain (b :: r) else a :: plain (b :: r)
theorem uM : ∀ (l : List Int) (x : Int), plain (l ++ [x]) = if l.getLast? = some x then plain l else plain l ++ [x]
  | [], x => by simp [plain]
  | [a], x => by
    simp only [List.cons_append, List.nil_append, plain, List.getLast?_singleton, Option.some.injEq]
    by_cases e : a = x
    · simp [e]
    · simp [e]
  | a :: b :: r, x => by
    have ih := uM (b :: r) x
    simp only [List.cons_append] at ih ⊢
    rw [plain, ih, List.getLast?_cons_cons]
    split <;> split <;> simp_all [plain]
theorem aEJ : ∀ l : List Int, (plain l).length ≤ l.length
  | [] => Nat.le_refl _
  | [a] => Nat.le_refl _
  | a :: b :: r => by
    have := aEJ (b :: r)
    rw [plain]
    split
    · simp only [List.length_cons] at this ⊢; omega
    · simp only [List.length_cons] at this ⊢; omega
theorem aDl {l : List Int} {k : Nat} (h0 : 0 < k) (hk : k < l.length) : plain (l.take (k + 1)) = if l.getD k 0 = l.getD (k - 1) 0 then plain (l.take k) else plain (l.take k) ++ [l.getD k 0] := by
  rw [iG l k 0 hk, uM]
  have : (l.take k).getLast? = some (l.getD (k - 1) 0) := by
    rw [List.getLast?_eq_getElem?, List.getElem?_take, List.length_take, List.getD_eq_getElem?_getD]
    have e : min k l.length - 1 = k - 1 := by omega
    rw [e, if_pos (by omega), List.getElem?_eq_getElem (by omega)]; rfl
  rw [this]
  by_cases e : l.getD k 0 = l.getD (k - 1) 0
  · rw [if_pos e, if_pos (by rw [e])]
  · rw [if_neg e, if_neg (fun h => e (Option.some.inj h).symm)]
theorem yX : ∀ (l : List Int), (∀ i, 0 < i → i < l.length → l.getD i 0 ≠ l.getD (i - 1) 0) → plain l = l
  | [], _ => rfl
  | [a], _ => rfl
  | a :: b :: r, h => by
    have h1 := h 1 (by omega) (by simp)
    have h1 : b ≠ a := h1
    rw [plain, if_neg (fun e => h1 e.symm), yX (b :: r) fun i h0 hi => ?_]
    have := h (i + 1) (by omega) (by simpa using hi)
    obtain ⟨j, rfl⟩ : ∃ j, i = j + 1 := ⟨i - 1, by omega⟩
    simpa using this
/-! ### Steps by which slots are stored -/
end Lam
namespace Lam
open Go

/-! ### A memory of two nodes -/
theorem aJl (z : List Int) (n : Nat) : upTo (z ++ List.replicate n 0) = upTo z := by
  unfold upTo
  induction z with
  | nil => cases n with
    | zero => rfl
    | succ n => rw [List.nil_append, List.replicate_succ, List.takeWhile_cons]; rfl
  | cons a r ih => rw [List.cons_append, List.takeWhile_cons, List.takeWhile_cons, ih]
theorem aLQ {z : List Int} (h : ∀ x ∈ z, 0 < x) : upTo z = z := by
  unfold upTo
  induction z with
  | nil => rfl
  | cons a r ih =>
    have : lt1 a = false := decide_eq_false (by have := h a (by simp); omega)
    rw [List.takeWhile_cons, this, ih fun x hx => h x (by simp [hx])]; rfl
/-! ### Unlike slots -/
/-! ### Steps by which slots are stored, of the second node -/
def aIk (l : List aAU) : Prop := ∀ s ∈ l, 0 ≤ s.at_ ∧ s.at_ < 13
theorem aIk.get {l : List aAU} (h : aIk l) {n : Nat} (hn : n < l.length) : 0 ≤ (l.getD n ⟨0, 0⟩).at_ ∧ (l.getD n ⟨0, 0⟩).at_ < 13 := h _ (kB l n _ hn)
end Lam
namespace Lam
open Go
theorem tH (l : List Int) (n q : Nat) : (l.take n).getD q 0 = if q < n then l.getD q 0 else 0 := by
  rw [List.getD_eq_getElem?_getD, List.getElem?_take, List.getD_eq_getElem?_getD]; split <;> rfl
theorem tI (l : List Int) (n q : Nat) : (l.drop n).getD q 0 = l.getD (n + q) 0 := by
  rw [List.getD_eq_getElem?_getD, List.getElem?_drop, List.getD_eq_getElem?_getD]
/-! ### Insert -/
/-! ### Delete -/
/-! ### Cut, swap -/
/-! ### How far -/
end Lam
namespace Lam
open Go
structure Nd where
  level : Int
  turn : Int
  next : Int
  low : Int
  slots : List Int
  deriving DecidableEq
def Nd.V (n : Nd) : AV := .agg [.int .i64 n.level, .int .i64 n.turn, .int .i64 n.next, .int .i64 n.low, .sl false (.ints .i64 n.slots)]
attribute [go_sem] Nd.V
def vE (n : Int) : Bool := decide (n = 0) || !(decide (0 ≤ n) && decide (n < 256))
def rE (n : Int) : Bool := decide (0 ≤ n) && decide (n < 256)
def Nd.ok (n : Nd) : Prop := 0 ≤ n.level ∧ n.level ≤ 9 ∧ 0 ≤ n.turn ∧ n.turn ≤ 1099511627776 ∧ (0 ≤ n.next ∧ n.next < 256) ∧ (0 ≤ n.low ∧ n.low < 256) ∧ n.slots.length ≤ 13 ∧ ∀ x ∈ n.slots, 1 ≤ x ∧ x < 256
def ndB (n : Nd) : Bool := decide (0 ≤ n.level) && decide (n.level ≤ 9) && decide (0 ≤ n.turn) && decide (n.turn ≤ 1099511627776) && rE n.next && rE n.low && decide (n.slots.length ≤ 13) && !n.slots.any vE
theorem xT {n : Nd} : ndB n = true ↔ n.ok := by
  unfold ndB Nd.ok rE vE
  simp only [Bool.and_eq_true, decide_eq_true_eq, Bool.not_eq_true', List.any_eq_false, Bool.or_eq_true, Bool.and_eq_false_iff, decide_eq_false_iff_not, not_or, not_and, Bool.not_eq_false']
  constructor
  · rintro ⟨⟨⟨⟨⟨⟨⟨h1, h2⟩, h3⟩, h4⟩, h5⟩, h6⟩, h7⟩, h8⟩
    exact ⟨h1, h2, h3, h4, h5, h6, h7, fun x hx => by have := h8 x hx; omega⟩
  · rintro ⟨h1, h2, h3, h4, h5, h6, h7, h8⟩
    exact ⟨⟨⟨⟨⟨⟨⟨h1, h2⟩, h3⟩, h4⟩, h5⟩, h6⟩, h7⟩, fun x hx => by have := h8 x hx; omega⟩
def aAG (n : Nd) : Int := 1152921504606846976 + 16 * n.turn + n.level
def fM (n : Nd) : List Int := aAG n :: n.next :: n.low :: (n.slots ++ List.replicate (13 - n.slots.length) 0)
theorem tJ {n : Nd} (h : n.ok) : (fM n).length = 16 := by
  have := h.2.2.2.2.2.2.1
  simp [fM]; omega
def oQ (d : List Int → Nd) (w : List Int) : Option Nd := if (ndB (d w) && decide (fM (d w) = w)) = true then some (d w) else none
theorem wX {d : List Int → Nd} {w : List Int} {n : Nd} (h : oQ d w = some n) : n.ok ∧ fM n = w := by
  unfold oQ at h
  split at h
  · rename_i hc
    rw [Bool.and_eq_true, decide_eq_true_eq] at hc
    cases h
    exact ⟨xT.1 hc.1, hc.2⟩
  · cases h
theorem aAH {d : List Int → Nd} (hd : ∀ n, n.ok → d (fM n) = n) {n : Nd} (h : n.ok) : oQ d (fM n) = some n := by
  unfold oQ
  rw [hd n h, xT.2 h, decide_eq_true rfl]; rfl
theorem aKI {d d' : List Int → Nd} (hd : ∀ n, n.ok → d (fM n) = n) (hd' : ∀ n, n.ok → d' (fM n) = n) (w : List Int) : oQ d w = oQ d' w := by
  cases h : oQ d w with
  | some n =>
    obtain ⟨h1, rfl⟩ := wX h
    rw [aAH hd' h1]
  | none =>
    cases h' : oQ d' w with
    | none => rfl
    | some n =>
      obtain ⟨h1, rfl⟩ := wX h'
      rw [aAH hd h1] at h; cases h
def decN (w : List Int) : Nd := ⟨(w.getD 0 0 - 1152921504606846976) % 16, (w.getD 0 0 - 1152921504606846976) / 16, w.getD 1 0, w.getD 2 0, upTo (w.drop 3)⟩
theorem aDm {n : Nd} (h : n.ok) : upTo ((fM n).drop 3) = n.slots := by
  show upTo (n.slots ++ _) = _
  rw [aJl, aLQ fun x hx => by have := h.2.2.2.2.2.2.2 x hx; omega]
theorem aDn {n : Nd} (h : n.ok) : decN (fM n) = n := by
  unfold decN
  rw [aDm h]
  have h5 := h.1
  have h6 := h.2.1
  have e0 : (fM n).getD 0 0 = 1152921504606846976 + 16 * n.turn + n.level := rfl
  have e1 : (fM n).getD 1 0 = n.next := rfl
  have e2 : (fM n).getD 2 0 = n.low := rfl
  rw [e0, e1, e2]
  cases n
  simp only at *
  simp only [Nd.mk.injEq, and_true]
  exact ⟨by omega, by omega⟩
def aBh (w : List Int) : Option Nd := oQ decN w
theorem aLR {n : Nd} (h : n.ok) : aBh (fM n) = some n := aAH (fun n h => aDn h) h
theorem uN {w : List Int} {n : Nd} (h : aBh w = some n) : n.ok ∧ fM n = w := wX h
def eQ (words : List Int) (k : Nat) : List Int := (words.drop (16 * k)).take 16
def jI : Nd := ⟨0, 0, 0, 0, []⟩
/-! ### Bits -/
theorem aDV {a b : Nat} (h : a ||| b < 2 ^ 63) (ha : a < 2 ^ 63) (hb : b < 2 ^ 63) : orI .i64 a b = ((a ||| b : Nat) : Int) := by
  have e : (BitVec.ofInt 64 (a : Int) ||| BitVec.ofInt 64 (b : Int)).toNat = a ||| b := by
    rw [BitVec.toNat_or, BitVec.ofInt_natCast, BitVec.ofInt_natCast, BitVec.toNat_ofNat, BitVec.toNat_ofNat, Nat.mod_eq_of_lt (by omega), Nat.mod_eq_of_lt (by omega)]
  show IntKind.i64.wrap ((BitVec.ofInt 64 (a : Int) ||| BitVec.ofInt 64 (b : Int)).toNat) = _
  rw [e]
  exact w64 (by omega) (by omega)
theorem aLS {a b : Nat} (ha : a < 2 ^ 63) (hb : b < 2 ^ 63) : andI .i64 a b = ((a &&& b : Nat) : Int) := by
  have e : (BitVec.ofInt 64 (a : Int) &&& BitVec.ofInt 64 (b : Int)).toNat = a &&& b := by
    rw [BitVec.toNat_and, BitVec.ofInt_natCast, BitVec.ofInt_natCast, BitVec.toNat_ofNat, BitVec.toNat_ofNat, Nat.mod_eq_of_lt (by omega), Nat.mod_eq_of_lt (by omega)]
  have hle : a &&& b ≤ a := Nat.and_le_left
  show IntKind.i64.wrap ((BitVec.ofInt 64 (a : Int) &&& BitVec.ofInt 64 (b : Int)).toNat) = _
  rw [e]
  exact w64 (by omega) (by omega)
theorem aDo {i a b : Nat} (h : b < 2 ^ i) : 2 ^ i * a ||| b = 2 ^ i * a + b := (Nat.two_pow_add_eq_or_of_lt h a).symm
theorem aJm {r : Nat} (h : r < 2 ^ 60) : xS .i64 ((1152921504606846976 + r : Nat) : Int) 1152921504606846976 = (r : Int) := by
  have e : (BitVec.ofInt 64 ((1152921504606846976 + r : Nat) : Int) &&& ~~~ BitVec.ofInt 64 1152921504606846976).toNat = r := by
    have h1 : BitVec.ofInt 64 (1152921504606846976 : Int) = BitVec.ofNat 64 (2 ^ 60) := by decide
    have h2 : 1152921504606846976 + r = 2 ^ 60 * 1 ||| r := by rw [aDo h]
    rw [h1, BitVec.ofInt_natCast, h2]
    have h3 : BitVec.ofNat 64 (2 ^ 60 * 1 ||| r) = BitVec.ofNat 64 (2 ^ 60) ||| BitVec.ofNat 64 r := by
      apply BitVec.eq_of_toNat_eq
      rw [BitVec.toNat_or, BitVec.toNat_ofNat, BitVec.toNat_ofNat, BitVec.toNat_ofNat, Nat.mod_eq_of_lt (by rw [aDo h]; omega), Nat.mod_eq_of_lt (by omega), Nat.mod_eq_of_lt (by omega)]
    rw [h3]
    have h4 : (BitVec.ofNat 64 (2 ^ 60) ||| BitVec.ofNat 64 r) &&& ~~~ BitVec.ofNat 64 (2 ^ 60) = BitVec.ofNat 64 r := by
      apply BitVec.eq_of_getLsbD_eq
      intro i hi
      rw [BitVec.getLsbD_and, BitVec.getLsbD_or, BitVec.getLsbD_not, BitVec.getLsbD_ofNat, BitVec.getLsbD_ofNat, Nat.testBit_two_pow]
      by_cases e : 60 = i
      · subst e
        have : r.testBit 60 = false := Nat.testBit_lt_two_pow h
        rw [this]; simp
      · simp [e, hi]
    rw [h4, BitVec.toNat_ofNat, Nat.mod_eq_of_lt (by omega)]
  show IntKind.i64.wrap ((BitVec.ofInt 64 ((1152921504606846976 + r : Nat) : Int) &&& ~~~ BitVec.ofInt 64 1152921504606846976).toNat) = _
  rw [e]
  exact w64 (by omega) (by omega)
theorem aJn {a b : Int} (ha : 0 ≤ a) (ha2 : a < 16) (hb : 0 ≤ b) (hb2 : b ≤ 1099511627776) : orI .i64 (orI .i64 1152921504606846976 (IntKind.i64.wrap (b * 2 ^ min 4 64))) a = 1152921504606846976 + 16 * b + a := by
  obtain ⟨m, rfl⟩ := Int.eq_ofNat_of_zero_le ha
  obtain ⟨t, rfl⟩ := Int.eq_ofNat_of_zero_le hb
  have e1 : IntKind.i64.wrap ((t : Int) * 2 ^ min 4 64) = ((t * 16 : Nat) : Int) := by
    rw [show (2 : Int) ^ min 4 64 = 16 from by decide, show (t : Int) * 16 = ((t * 16 : Nat) : Int) from by simp]
    exact w64 (by omega) (by omega)
  have hlt : t * 16 < 2 ^ 60 := by omega
  have o1 : (2 ^ 60 * 1 ||| t * 16) = 2 ^ 60 + t * 16 := by rw [aDo hlt]
  have e2 : orI .i64 1152921504606846976 ((t * 16 : Nat) : Int) = ((2 ^ 60 + t * 16 : Nat) : Int) := by
    have := aDV (a := 2 ^ 60 * 1) (b := t * 16) (by rw [o1]; omega) (by omega) (by omega)
    rw [o1] at this
    exact this
  have o2 : (2 ^ 60 + t * 16 ||| m) = 2 ^ 60 + t * 16 + m := by
    have : 2 ^ 60 + t * 16 = 2 ^ 4 * (2 ^ 56 + t) := by omega
    rw [this, aDo (by omega)]
  rw [e1, e2, aDV (by rw [o2]; omega) (by omega) (by omega), o2]
  omega
def decP (w : List Int) : Nd := ⟨andI .i64 (w.getD 0 0) 15, (xS .i64 (w.getD 0 0) 1152921504606846976).fdiv (2 ^ min 4 64), w.getD 1 0, w.getD 2 0, mF w 0⟩
theorem aJo {n : Nd} (h : n.ok) : decP (fM n) = n := by
  unfold decP
  have hs : mF (fM n) 0 = n.slots := by
    unfold mF
    rw [tJ h, if_pos (by decide)]
    have := h.2.2.2.2.2.2.1
    rw [show (0 : Int).toNat + 3 = 3 from rfl, List.take_of_length_le (by simp [fM]; omega), aDm h]
  have h5 := h.1
  have h6 := h.2.1
  have h7 := h.2.2.1
  have h8 := h.2.2.2.1
  have e1 : (fM n).getD 1 0 = n.next := rfl
  have e2 : (fM n).getD 2 0 = n.low := rfl
  obtain ⟨m, hm⟩ := Int.eq_ofNat_of_zero_le h5
  obtain ⟨t, ht⟩ := Int.eq_ofNat_of_zero_le h7
  have e0 : (fM n).getD 0 0 = ((1152921504606846976 + (16 * t + m) : Nat) : Int) := by
    show 1152921504606846976 + 16 * n.turn + n.level = _
    omega
  have a1 : andI .i64 ((1152921504606846976 + (16 * t + m) : Nat) : Int) 15 = (m : Int) := by
    have := aLS (a := 1152921504606846976 + (16 * t + m)) (b := 15) (by omega) (by omega)
    rw [show (15 : Nat) = 2 ^ 4 - 1 from rfl, Nat.and_two_pow_sub_one_eq_mod] at this
    refine this.trans ?_
    omega
  rw [hs, e0, e1, e2, a1, aJm (by omega), show (2 : Int) ^ min 4 64 = 16 from by decide, Int.fdiv_eq_ediv_of_nonneg _ (by decide)]
  cases n
  simp only at *
  simp only [Nd.mk.injEq, and_true]
  exact ⟨by omega, by omega⟩
theorem aLT (w : List Int) : oQ decP w = aBh w := aKI (fun n h => aJo h) (fun n h => aDn h) w
theorem aFn (w : List Int) (b : Int) : roomy (mF w b).length := by
  unfold mF
  split
  · unfold upTo
    have := (List.takeWhile_sublist (l := (w.drop (b.toNat + 3)).take 13) fun x => !lt1 x).length_le
    rw [List.length_take] at this
    unfold roomy; omega
  · unfold roomy; simp
end Lam
namespace Lam
open Go
def aMI (a b : Int) : Int := xorI .u32 a b
def aMJ (a b : Int) : Int := andI .u32 a b
def bitS (c : Int) : Int := aMI (c.fdiv (2 ^ min (Int.toNat 1) 32)) (aMJ 3988292384 (IntKind.u32.wrap (0 - aMJ c 1)))
def bitN : Nat → Int → Int
  | 0, c => c
  | n + 1, c => bitS (bitN n c)
def tabE (i : Nat) : Int := bitN 8 (IntKind.u32.wrap i)
def tabL : List Int := (List.range 256).map tabE
def aMK (t : List Int) (c b : Int) : Int := aMI (c.fdiv (2 ^ min (Int.toNat 8) 32)) (t.getD (xorI .u8 (IntKind.u8.wrap c) b).toNat 0)
def aOh (w : Int) (k : Nat) : Int := IntKind.u8.wrap ((IntKind.u64.wrap w).fdiv (2 ^ min (Int.toNat (56 - 8 * k)) 64))
def aFw (t : List Int) (w : Int) : Nat → Int → Int
  | 0, c => c
  | k + 1, c => aMK t (aFw t w k c) (aOh w k)
def aJp (t : List Int) (c w : Int) : Int := aFw t w 8 c
def sumC (l : List Int) : Int := l.foldl (aJp tabL) 4294967295
def aBi (l : List Int) : Int := IntKind.i64.wrap (notI .u32 (sumC l))
theorem aLU : tabL.length = 256 := by simp [tabL]
/-! ### As naturals -/
/-! ### As the reference has it -/
end Lam
namespace Lam
open Go
def pv (p : aY) : Nat := p.foldl (fun a b => a * 256 + b.toNat) 0
def pw (p : aY) : Nat := pv p * 256 ^ (7 - p.length)
def oR (s : aY) (k : Nat) : aY := (s.drop (7 * k)).take 7
def iH (s : aY) : Nat := (s.length + 6) / 7
def keyW (s : aY) : List Int := (List.range (iH s)).map fun k => (pw (oR s k) : Int)

theorem aHE (x b m : Nat) (hb : b < 256) : x * 2 ^ (m + 8) ||| b * 2 ^ m = (x * 256 + b) * 2 ^ m := by
  have e1 : x * 2 ^ (m + 8) = (x <<< 8) <<< m := by rw [Nat.shiftLeft_eq, Nat.shiftLeft_eq, Nat.pow_add, Nat.mul_assoc, Nat.mul_comm (2 ^ m)]
  have e2 : b * 2 ^ m = b <<< m := by rw [Nat.shiftLeft_eq]
  have e3 : (x * 256 + b) * 2 ^ m = (x <<< 8 + b) <<< m := by rw [Nat.shiftLeft_eq, Nat.shiftLeft_eq]
  rw [e1, e2, e3, ← Nat.shiftLeft_or_distrib, Nat.shiftLeft_add_eq_or_of_lt (by omega)]

theorem aIl (p : aY) (b : UInt8) : pv (p ++ [b]) = pv p * 256 + b.toNat := by simp [pv]
theorem aJq : ∀ (p : aY), pv p < 256 ^ p.length := by
  intro p
  have key : ∀ (p : aY) (a n : Nat), a < 256 ^ n → p.foldl (fun a b => a * 256 + b.toNat) a < 256 ^ (n + p.length) := by
    intro p
    induction p with
    | nil => intro a n h; simpa using h
    | cons b r ih =>
      intro a n h
      have hb : b.toNat < 256 := b.toNat_lt
      have := ih (a * 256 + b.toNat) (n + 1) (by rw [Nat.pow_succ]; omega)
      simpa [Nat.add_assoc, Nat.add_comm 1] using this
  have := key p 0 0 (by simp)
  simpa [pv] using this

theorem aNk (p : aY) {j : Nat} (hp : p.length ≤ 7) (hj : j < p.length) :
    orI .i64 ((pv (p.take j) * 256 ^ (7 - j) : Nat) : Int) (IntKind.i64.wrap (IntKind.i64.wrap ((p.getD j 0).toNat : Int) * 2 ^ min (IntKind.i64.wrap (8 * IntKind.i64.wrap (6 - (j : Int)))).toNat 64)) = ((pv (p.take (j + 1)) * 256 ^ (7 - (j + 1)) : Nat) : Int) := by
  have hb : (p.getD j 0).toNat < 256 := (p.getD j 0).toNat_lt
  have hx : pv (p.take j) < 256 ^ j := by have := aJq (p.take j); rwa [List.length_take, Nat.min_eq_left (by omega)] at this
  rw [iG p j 0 hj, aIl]
  generalize (p.getD j 0).toNat = b at *
  generalize pv (p.take j) = x at *
  have e1 : IntKind.i64.wrap (6 - (j : Int)) = ((6 - j : Nat) : Int) := by rw [w64 (by omega) (by omega)]; omega
  have e2 : IntKind.i64.wrap (8 * ((6 - j : Nat) : Int)) = ((8 * (6 - j) : Nat) : Int) := by rw [w64 (by omega) (by omega)]; omega
  have e3 : IntKind.i64.wrap ((b : Nat) : Int) = (b : Int) := w64 (by omega) (by omega)
  have hm : 8 * (6 - j) ≤ 48 := by omega
  have e4 : (256 : Nat) ^ (7 - j) = 2 ^ (8 * (6 - j) + 8) := by rw [show (256 : Nat) = 2 ^ 8 from rfl, ← Nat.pow_mul]; congr 1; omega
  have e5 : (256 : Nat) ^ (7 - (j + 1)) = 2 ^ (8 * (6 - j)) := by rw [show (256 : Nat) = 2 ^ 8 from rfl, ← Nat.pow_mul]; congr 1; omega
  rw [e1, e2, e3, Int.toNat_natCast, Nat.min_eq_left (by omega), e4, e5]
  have hpm : (2 : Nat) ^ (8 * (6 - j)) ≤ 2 ^ 48 := Nat.pow_le_pow_right (by omega) hm
  have hbm : b * 2 ^ (8 * (6 - j)) < 2 ^ 63 := by
    have : b * 2 ^ (8 * (6 - j)) ≤ 255 * 2 ^ 48 := Nat.mul_le_mul (by omega) hpm
    omega
  have ec : ((b : Int) * 2 ^ (8 * (6 - j))) = ((b * 2 ^ (8 * (6 - j)) : Nat) : Int) := by push_cast; rfl
  rw [ec, w64 (by omega) (by omega)]
  have hor := aHE x b (8 * (6 - j)) hb
  have hall : (x * 256 + b) * 2 ^ (8 * (6 - j)) < 2 ^ 63 := by
    have h1 : x * 256 + b < 256 ^ (j + 1) := by rw [Nat.pow_succ]; omega
    have h2 : (256 : Nat) ^ (j + 1) * 2 ^ (8 * (6 - j)) = 2 ^ 56 := by
      rw [show (256 : Nat) = 2 ^ 8 from rfl, ← Nat.pow_mul, ← Nat.pow_add]; congr 1; omega
    have h3 : (x * 256 + b) * 2 ^ (8 * (6 - j)) ≤ 256 ^ (j + 1) * 2 ^ (8 * (6 - j)) := Nat.mul_le_mul_right _ (by omega)
    omega
  have hle : x * 2 ^ (8 * (6 - j) + 8) ≤ x * 2 ^ (8 * (6 - j) + 8) ||| b * 2 ^ (8 * (6 - j)) := Nat.left_le_or
  rw [aDV (by rw [hor]; exact hall) (by omega) hbm, hor]

theorem aJr (s : aY) {k : Nat} (hk : k < iH s) : (keyW s).getD k 0 = (pw (oR s k) : Int) := by
  simp [keyW, List.getD_eq_getElem?_getD, hk]

def rF (w : Int) (i : Nat) : Int := IntKind.u8.wrap (w.fdiv (2 ^ (8 * (6 - i))))
def rG (w : Int) : List Int := (List.range 7).map (rF w)
def jS (l : List Int) : List Int := l.flatMap rG
def wMay (w : Int) : Bool := decide (0 ≤ w) && decide (w < 72057594037927936)
def lenT (n : Int) : Int := IntKind.i64.wrap (IntKind.i64.wrap (n.tdiv 7) + (if n.tmod 7 < 1 then n.tmod 7 else 1))
def nM (l : List Int) (n : Int) : Bool := !decide (n < 0) && decide ((l.length : Int) = lenT n) && l.all wMay && ((jS l).drop n.toNat).all (fun b => decide (b = 0))
def wL (l : List Int) (n : Int) : aY := ((jS l).take n.toNat).map fun b => UInt8.ofNat b.toNat
theorem aGt (m : Nat) (h : (m : Int) < 9223372036854775808) : lenT m = ((m + 6) / 7 : Nat) := by
  unfold lenT
  have e1 : (m : Int).tdiv 7 = ((m / 7 : Nat) : Int) := rfl
  have e2 : (m : Int).tmod 7 = ((m % 7 : Nat) : Int) := rfl
  rw [e1, e2, w64 (n := ((m / 7 : Nat) : Int)) (by omega) (by omega)]
  split
  · rw [w64 (by omega) (by omega)]; omega
  · rw [w64 (by omega) (by omega)]; omega

theorem aKJ (l : List Int) : (jS l).length = 7 * l.length := by
  induction l with
  | nil => rfl
  | cons w r ih => simp only [jS, List.flatMap_cons, List.length_append, List.length_cons] at ih ⊢; rw [ih]; simp [rG]; omega
theorem aHF (w : Int) (i : Nat) : 0 ≤ rF w i ∧ rF w i < 256 := aGo _

/-! ### Words and bytes -/
theorem aEK (p q : aY) : pv (p ++ q) = pv p * 256 ^ q.length + pv q := by
  have key : ∀ (q : aY) (a : Nat), q.foldl (fun a b => a * 256 + b.toNat) a = a * 256 ^ q.length + pv q := by
    intro q
    induction q with
    | nil => intro a; simp [pv]
    | cons b r ih =>
      intro a
      have h1 := ih (a * 256 + b.toNat)
      have h2 := ih b.toNat
      have h3 : pv (b :: r) = r.foldl (fun a b => a * 256 + b.toNat) b.toNat := by simp [pv]
      rw [h3, h2, List.foldl_cons, h1, List.length_cons, Nat.pow_succ, Nat.add_mul]
      rw [Nat.mul_assoc a 256, Nat.mul_comm 256]
      omega
  have := key q (pv p)
  rw [← this]
  simp [pv]

theorem aLV (n : Nat) : pv (List.replicate n 0) = 0 := by
  induction n with
  | zero => rfl
  | succ n ih => simpa [pv, List.replicate_succ] using ih

def padB (p : aY) : aY := p ++ List.replicate (7 - p.length) 0
theorem aKK (p : aY) : pw p = pv (padB p) := by
  unfold pw padB
  rw [aEK, aLV, List.length_replicate, Nat.add_zero]
theorem aGu {p : aY} (h : p.length ≤ 7) : (padB p).length = 7 := by simp [padB]; omega

theorem aOi (q : aY) {i : Nat} (hi : i < q.length) : pv q / 256 ^ (q.length - 1 - i) % 256 = (q.getD i 0).toNat := by
  have e : q = q.take (i + 1) ++ q.drop (i + 1) := (List.take_append_drop _ _).symm
  have hd : (q.drop (i + 1)).length = q.length - 1 - i := by simp; omega
  have hlt := aJq (q.drop (i + 1))
  have e2 : pv q = pv (q.take (i + 1)) * 256 ^ (q.length - 1 - i) + pv (q.drop (i + 1)) := by
    conv => lhs; rw [e]
    rw [aEK, hd]
  rw [hd] at hlt
  have hpos : 0 < 256 ^ (q.length - 1 - i) := Nat.pow_pos (by omega)
  rw [e2, Nat.mul_comm, Nat.mul_add_div hpos, Nat.div_eq_of_lt hlt, Nat.add_zero, iG q i 0 hi, aIl]
  have := (q.getD i 0).toNat_lt
  omega

theorem aKL (n i : Nat) : rF n i = ((n / 256 ^ (6 - i) % 256 : Nat) : Int) := by
  unfold rF
  have e : (2 : Int) ^ (8 * (6 - i)) = ((256 ^ (6 - i) : Nat) : Int) := by
    rw [show (256 : Nat) = 2 ^ 8 from rfl, ← Nat.pow_mul]; push_cast; rfl
  rw [e]
  have e2 : (n : Int).fdiv ((256 ^ (6 - i) : Nat) : Int) = ((n / 256 ^ (6 - i) : Nat) : Int) := by
    rw [Int.fdiv_eq_ediv_of_nonneg _ (Int.natCast_nonneg _)]; exact (Int.natCast_ediv _ _).symm
  rw [e2]
  simp [IntKind.wrap, IntKind.bits, IntKind.signed]

def nN (p : aY) : List Int := p.map fun b => (b.toNat : Int)
theorem aEL (p : aY) : (nN p).length = p.length := by simp [nN]

theorem aKM {q : aY} (h : q.length = 7) : rG (pv q : Nat) = nN q := by
  apply List.ext_getElem
  · simp [rG, nN, h]
  intro i h1 h2
  have hi : i < q.length := by simpa [nN] using h2
  simp only [rG, nN, List.getElem_map, List.getElem_range]
  rw [aKL]
  have := aOi q hi
  rw [h] at this
  rw [show 6 - i = 7 - 1 - i by omega, this, List.getD_eq_getElem?_getD, List.getElem?_eq_getElem hi]
  rfl

theorem aOj {q : aY} (h : q.length = 7) : pv q < 72057594037927936 := by have := aJq q; rw [h] at this; exact this

theorem aKN {p q : aY} (h : nN p = nN q) : p = q := by
  apply List.ext_getElem
  · have := congrArg List.length h; simpa [nN] using this
  intro i h1 h2
  have := congrArg (fun l => l.getD i 0) h
  simp [nN, List.getD_eq_getElem?_getD, h1, h2] at this
  exact UInt8.toNat_inj.1 (Int.natCast_inj.1 this)

theorem aHG {l : List Int} : ∀ b ∈ jS l, 0 ≤ b ∧ b < 256 := by
  intro b hb
  simp only [jS, List.mem_flatMap, rG, List.mem_map] at hb
  obtain ⟨w, _, i, _, rfl⟩ := hb
  exact aHF w i

theorem aJs {l : List Int} {n : Nat} : nN (wL l n) = (jS l).take n := by
  unfold nN wL
  rw [List.map_map, Int.toNat_natCast]
  conv => rhs; rw [← List.map_id ((jS l).take n)]
  apply List.map_congr_left
  intro b hb
  obtain ⟨h1, h2⟩ := aHG b (List.mem_of_mem_take hb)
  simp only [Function.comp, id]
  rw [UInt8.toNat_ofNat', Nat.mod_eq_of_lt (by omega)]
  omega

/-! ### A text's words -/
theorem aJt (s : aY) (k : Nat) : (oR s k).length ≤ 7 := by unfold oR; simp; omega
theorem vT (s : aY) : (keyW s).length = iH s := by simp [keyW]
theorem aLW (s : aY) : (keyW s).all wMay = true := by
  rw [List.all_eq_true]
  intro w hw
  simp only [keyW, List.mem_map] at hw
  obtain ⟨k, _, rfl⟩ := hw
  rw [aKK]
  have := aOj (aGu (aJt s k))
  simp [wMay]; omega

theorem aKO {s : aY} (h : s ≠ []) : keyW s = (pw (s.take 7) : Int) :: keyW (s.drop 7) := by
  have hp : 0 < s.length := List.length_pos_iff.2 h
  apply List.ext_getElem
  · simp [keyW, iH]; omega
  intro i h1 h2
  simp only [keyW, List.getElem_map, List.getElem_range]
  cases i with
  | zero => simp [oR]
  | succ i =>
    simp only [List.getElem_cons_succ, List.getElem_map, List.getElem_range, oR, List.drop_drop]
    rw [show 7 * (i + 1) = 7 + 7 * i by omega]

theorem aBF : ∀ (n : Nat) (s : aY), s.length ≤ n → jS (keyW s) = nN s ++ List.replicate (7 * iH s - s.length) 0
  | n, [], _ => rfl
  | 0, b :: r, h => by simp at h
  | n + 1, b :: r, h => by
    rw [aKO (by simp)]
    generalize hs : b :: r = s at *
    have hp : 0 < s.length := by rw [← hs]; simp
    have e1 : ∀ (x : Int) (l : List Int), jS (x :: l) = rG x ++ jS l := fun x l => by simp [jS]
    have htl : (s.take 7).length ≤ 7 := by simp; omega
    rw [e1, aKK, aKM (aGu htl), aBF n (s.drop 7) (by simp; omega)]
    unfold padB
    simp only [nN, List.map_append, List.append_assoc, List.map_replicate, List.length_take, List.length_drop]
    rcases Nat.lt_or_ge s.length 7 with h7 | h7
    · have h1 : s.take 7 = s := List.take_of_length_le (by omega)
      have h2 : s.drop 7 = [] := List.drop_eq_nil_of_le (by omega)
      rw [h1, h2]
      have h3 : iH s = 1 := by unfold iH; omega
      rw [h3]
      simp [iH, Nat.min_eq_right (Nat.le_of_lt h7)]
    · have h3 : iH (s.drop 7) = iH s - 1 := by unfold iH; simp; omega
      have h4 : 1 ≤ iH s := by unfold iH; omega
      rw [Nat.min_eq_left h7, h3]
      have h5 : 7 * (iH s - 1) - (s.length - 7) = 7 * iH s - s.length := by omega
      rw [h5]
      simp only [List.map_take, List.map_drop, Nat.sub_self, List.replicate_zero, List.nil_append]
      rw [← List.append_assoc, List.take_append_drop]

theorem aJu (s : aY) (h : s.length < 9223372036854775808) : nM (keyW s) s.length = true ∧ wL (keyW s) s.length = s := by
  have hf := aBF s.length s (Nat.le_refl _)
  have ht : (jS (keyW s)).take s.length = nN s := by rw [hf, List.take_left' (aEL s)]
  refine ⟨?_, aKN (by rw [aJs, ht])⟩
  unfold nM
  rw [aLW, vT, aGt _ (by omega), Int.toNat_natCast, hf, List.drop_left' (aEL s)]
  have : ¬ ((s.length : Int) < 0) := by omega
  simp only [this, decide_false, Bool.not_false, Bool.true_and, iH, decide_true, Bool.and_true]
  rw [List.all_eq_true]
  intro b hb
  rw [List.eq_of_mem_replicate hb]; rfl

end Lam
namespace Lam
open Go
structure Rc where
  kind : Int
  key : aY
  val : aY
  child : Int
  deriving DecidableEq
def Rc.V (x : Rc) : AV := .agg [.int .i64 x.kind, .str x.key, .str x.val, .int .i64 x.child]
attribute [go_sem] Rc.V
def Rc.ok (x : Rc) : Prop := (x.kind = 1 ∧ x.key ≠ [] ∧ x.key.length ≤ 21 ∧ x.val.length ≤ 21 ∧ x.child = 0) ∨ (x.kind = 2 ∧ x.key.length ≤ 21 ∧ x.val = [] ∧ 0 < x.child ∧ x.child < 256)
def keyB (s : aY) : Bool := decide (s ≠ []) && decide ((s.length : Int) ≤ 21)
def recB (x : Rc) : Bool := (decide (x.kind = 1) && (keyB x.key && decide ((x.val.length : Int) ≤ 21) && decide (x.child = 0))) || (decide (x.kind = 2) && ((decide (x.key = []) || keyB x.key) && decide (x.val = []) && decide (0 < x.child) && decide (x.child < 256)))
theorem xU {x : Rc} : recB x = true ↔ x.ok := by
  unfold recB Rc.ok keyB
  simp only [Bool.or_eq_true, Bool.and_eq_true, decide_eq_true_eq]
  constructor
  · rintro (⟨h1, ⟨⟨h2, h3⟩, h4⟩, h5⟩ | ⟨h1, ⟨⟨h2, h3⟩, h4⟩, h5⟩)
    · exact .inl ⟨h1, h2, by omega, by omega, h5⟩
    · refine .inr ⟨h1, ?_, h3, h4, h5⟩
      rcases h2 with h | h
      · rw [h]; exact Nat.zero_le _
      · omega
  · rintro (⟨h1, h2, h3, h4, h5⟩ | ⟨h1, h2, h3, h4, h5⟩)
    · exact .inl ⟨h1, ⟨⟨h2, by omega⟩, by omega⟩, h5⟩
    · refine .inr ⟨h1, ⟨⟨?_, h3⟩, h4⟩, h5⟩
      by_cases e : x.key = []
      · exact .inl e
      · exact .inr ⟨e, by omega⟩
theorem Rc.ok.key {x : Rc} (h : x.ok) : x.key.length ≤ 21 := by rcases h with h | h; exact h.2.2.1; exact h.2.1
theorem Rc.ok.val {x : Rc} (h : x.ok) : x.val.length ≤ 21 := by
  rcases h with h | h
  · exact h.2.2.2.1
  · rw [h.2.2.1]; exact Nat.zero_le _
def jW (s : aY) : List Int := keyW s ++ List.replicate (3 - (keyW s).length) 0
theorem oS {s : aY} (h : s.length ≤ 21) : (jW s).length = 3 := by
  have h1 : (keyW s).length = iH s := vT s
  have h2 : iH s = (s.length + 6) / 7 := rfl
  simp [jW]; omega
def wM (x : Rc) : List Int := jW x.key ++ ((if x.kind = 2 then [x.child, 0, 0] else jW x.val) ++ List.replicate 7 0)
def mX (x : Rc) : Int := 32 * (x.key.length : Int) + (x.val.length : Int)
def jA (x : Rc) : List Int := x.kind :: mX x :: aBi (x.kind :: mX x :: wM x) :: wM x
theorem aLX {x : Rc} (h : x.ok) : (wM x).length = 13 := by
  have h1 := oS h.key
  have h2 := oS h.val
  unfold wM
  split <;> simp [h1, h2]
theorem aCf {x : Rc} (h : x.ok) : (jA x).length = 16 := by
  have := aLX h
  simp [jA, this]
theorem aEM (s : aY) (h : s.length ≤ 21) : nM ((jW s).take ((s.length + 6) / 7)) s.length = true ∧ wL ((jW s).take ((s.length + 6) / 7)) s.length = s := by
  have h1 : (keyW s).length = (s.length + 6) / 7 := vT s
  have : (jW s).take ((s.length + 6) / 7) = keyW s := by
    unfold jW; exact List.take_left' h1
  rw [this]
  exact aJu s (by omega)
def txtB (w : List Int) (at_ : Nat) (n : Int) : Bool := decide (0 ≤ n) && decide (n ≤ 21) && nM ((w.drop at_).take ((n.toNat + 6) / 7)) n
def txtS (w : List Int) (at_ : Nat) (n : Int) : aY := if txtB w at_ n = true then wL ((w.drop at_).take ((n.toNat + 6) / 7)) n else []
theorem aGv {x : Rc} (h : x.ok) : txtB (jA x) 3 (x.key.length : Int) = true ∧ txtS (jA x) 3 (x.key.length : Int) = x.key := by
  have hk := h.key
  have h3 := oS hk
  have e : ((jA x).drop 3).take ((x.key.length + 6) / 7) = (jW x.key).take ((x.key.length + 6) / 7) := by
    show (jW x.key ++ _).take _ = _
    exact List.take_append_of_le_length (by rw [h3]; omega)
  have ht := aEM x.key hk
  have hb : txtB (jA x) 3 (x.key.length : Int) = true := by
    unfold txtB
    rw [Int.toNat_natCast, e, ht.1, decide_eq_true (by omega), decide_eq_true (by omega)]; rfl
  refine ⟨hb, ?_⟩
  unfold txtS
  rw [if_pos hb, Int.toNat_natCast, e]; exact ht.2
theorem aGw {x : Rc} (h : x.ok) (h1 : x.kind = 1) : txtB (jA x) 6 (x.val.length : Int) = true ∧ txtS (jA x) 6 (x.val.length : Int) = x.val := by
  have hk := oS h.key
  have hv := h.val
  have h3 := oS hv
  have e : ((jA x).drop 6).take ((x.val.length + 6) / 7) = (jW x.val).take ((x.val.length + 6) / 7) := by
    have : (jA x).drop 6 = jW x.val ++ List.replicate 7 0 := by
      show (jW x.key ++ _).drop 3 = _
      rw [List.drop_left' hk, if_neg (by rw [h1]; decide)]
    rw [this]
    exact List.take_append_of_le_length (by rw [h3]; omega)
  have ht := aEM x.val hv
  have hb : txtB (jA x) 6 (x.val.length : Int) = true := by
    unfold txtB
    rw [Int.toNat_natCast, e, ht.1, decide_eq_true (by omega), decide_eq_true (by omega)]; rfl
  refine ⟨hb, ?_⟩
  unfold txtS
  rw [if_pos hb, Int.toNat_natCast, e]; exact ht.2
theorem aJv {x : Rc} (h : x.ok) (h2 : x.kind = 2) : (jA x).getD 6 0 = x.child := by
  have hk := oS h.key
  show (jW x.key ++ _).getD 3 0 = _
  rw [aBp _ _ _ _ (by omega), hk, if_pos h2]; rfl
def decC (w : List Int) : Rc := ⟨w.getD 0 0, txtS w 3 (w.getD 1 0 / 32), if w.getD 0 0 = 1 then txtS w 6 (w.getD 1 0 % 32) else [], if w.getD 0 0 = 2 then w.getD 6 0 else 0⟩
theorem aAI {x : Rc} (h : x.ok) : mX x / 32 = x.key.length ∧ mX x % 32 = x.val.length ∧ 0 ≤ mX x ∧ mX x ≤ 693 := by
  have := h.key; have := h.val
  unfold mX; omega
theorem aEN {x : Rc} (h : x.ok) : decC (jA x) = x := by
  have e0 : (jA x).getD 0 0 = x.kind := rfl
  have e1 : (jA x).getD 1 0 = mX x := rfl
  have hl := aAI h
  unfold decC
  rw [e0, e1, hl.1, hl.2.1, (aGv h).2]
  have h' := h
  rcases h with ⟨h1, _, _, _, h5⟩ | ⟨h1, _, h3, _, _⟩
  · rw [if_pos h1, if_neg (by rw [h1]; decide), (aGw h' h1).2]
    cases x; simp only at *; simp only [h5]
  · rw [if_neg (by rw [h1]; decide), if_pos h1, aJv h' h1]
    cases x; simp only at *; simp only [h3]
def pE (d : List Int → Rc) (w : List Int) : Option Rc := if (recB (d w) && decide (jA (d w) = w)) = true then some (d w) else none
theorem yY {d : List Int → Rc} {w : List Int} {n : Rc} (h : pE d w = some n) : n.ok ∧ jA n = w := by
  unfold pE at h
  split at h
  · rename_i hc
    rw [Bool.and_eq_true, decide_eq_true_eq] at hc
    cases h
    exact ⟨xU.1 hc.1, hc.2⟩
  · cases h
theorem aGx {d : List Int → Rc} (hd : ∀ n, n.ok → d (jA n) = n) {n : Rc} (h : n.ok) : pE d (jA n) = some n := by
  unfold pE
  rw [hd n h, xU.2 h, decide_eq_true rfl]; rfl
theorem aLY {d d' : List Int → Rc} (hd : ∀ n, n.ok → d (jA n) = n) (hd' : ∀ n, n.ok → d' (jA n) = n) (w : List Int) : pE d w = pE d' w := by
  cases h : pE d w with
  | some n =>
    obtain ⟨h1, rfl⟩ := yY h
    rw [aGx hd' h1]
  | none =>
    cases h' : pE d' w with
    | none => rfl
    | some n =>
      obtain ⟨h1, rfl⟩ := yY h'
      rw [aGx hd h1] at h; cases h
def sS (w : List Int) : Option Rc := pE decC w
theorem yZ {w : List Int} {x : Rc} (h : sS w = some x) : x.ok ∧ jA x = w := yY h
theorem aDp {w : List Int} (h : ∀ x : Rc, x.ok → jA x ≠ w) : sS w = none := by
  cases e : sS w with
  | none => rfl
  | some x => exact absurd (yZ e).2 (h x (yZ e).1)
def kC : Rc := ⟨0, [], [], 0⟩
end Lam
namespace Lam
open Go
def cR (w : List Int) (b : Int) : Option Nd := if (decide (b < 0) || decide (((w.length / 16 : Nat) : Int) ≤ b)) = true then none else aBh (eQ w b.toNat)
def recO (w : List Int) (b : Int) : Option Rc := if (decide (b < 0) || decide (((w.length / 16 : Nat) : Int) ≤ b)) = true then none else sS (eQ w b.toNat)
theorem kV {w : List Int} {b : Int} {n : Nd} (h : cR w b = some n) : n.ok ∧ 0 ≤ b ∧ b < ((w.length / 16 : Nat) : Int) ∧ aBh (eQ w b.toNat) = some n := by
  unfold cR at h
  split at h
  · cases h
  · rename_i hb
    simp only [Bool.or_eq_true, decide_eq_true_eq, not_or] at hb
    exact ⟨(uN h).1, by omega, by omega, h⟩
def nB (w : List Int) : Nat → Int → List Int → Option (List Int)
  | 0, _, _ => none
  | m + 1, b, out => if b = 0 then some out else match cR w b with
    | none => none
    | some n => if n.level = 0 ∧ b ∉ out then nB w m n.next (out ++ [b]) else none
theorem aGy {N : Nat} : ∀ {l : List Int}, l.Nodup → (∀ x ∈ l, 0 ≤ x ∧ x < (N : Int)) → l.length ≤ N := by
  intro l hn hx
  have h1 : (l.map Int.toNat).Nodup := by
    unfold List.Nodup at hn ⊢
    rw [List.pairwise_map]
    exact hn.imp_of_mem fun {a b} ha hb hne => by have := hx a ha; have := hx b hb; omega
  have h2 : ∀ x ∈ l.map Int.toNat, x ∈ List.range N := by
    intro x hm
    obtain ⟨y, hy, rfl⟩ := List.mem_map.1 hm
    have := hx y hy
    rw [List.mem_range]; omega
  have := List.Nodup.length_le_of_subset h1 (fun x hx => h2 x hx)
  simpa using this
theorem aBG {w : List Int} : ∀ (m : Nat) (b : Int) (out l : List Int), nB w m b out = some l → out.Nodup → (∀ x ∈ out, 0 ≤ x ∧ x < ((w.length / 16 : Nat) : Int)) →
    l.Nodup ∧ (∀ x ∈ l, 0 ≤ x ∧ x < ((w.length / 16 : Nat) : Int)) ∧ ∃ r, l = out ++ r ∧ (b ≠ 0 → ∃ r', r = b :: r') ∧ ∀ x ∈ r, ∃ n, cR w x = some n ∧ n.level = 0
  | 0, b, out, l, h, _, _ => by cases h
  | m + 1, b, out, l, h, hn, hr => by
    simp only [nB] at h
    split at h
    · rename_i h0
      cases h
      exact ⟨hn, hr, [], by simp, fun h => absurd h0 h, by simp⟩
    · rename_i h0
      cases hnd : cR w b with
      | none => rw [hnd] at h; cases h
      | some n =>
        rw [hnd] at h
        simp only at h
        split at h
        rotate_left
        · cases h
        rename_i hc
        obtain ⟨_, q0, q1, _⟩ := kV hnd
        have hn' : (out ++ [b]).Nodup := by
          rw [List.nodup_append]
          refine ⟨hn, by simp, fun a ha b' hb' => ?_⟩
          simp only [List.mem_singleton] at hb'
          subst hb'
          rintro rfl
          exact hc.2 ha
        have hr' : ∀ x ∈ out ++ [b], 0 ≤ x ∧ x < ((w.length / 16 : Nat) : Int) := by
          intro x hx
          simp only [List.mem_append, List.mem_singleton] at hx
          rcases hx with hx | rfl
          · exact hr x hx
          · exact ⟨q0, q1⟩
        obtain ⟨g1, g2, r, g3, _, g4⟩ := aBG m _ _ _ h hn' hr'
        refine ⟨g1, g2, b :: r, by rw [g3]; simp, fun _ => ⟨r, rfl⟩, fun x hx => ?_⟩
        rcases List.mem_cons.1 hx with rfl | hx
        · exact ⟨n, hnd, hc.1⟩
        · exact g4 x hx
def kD (hb : Bool) (w : List Int) : Option (List Int) := if hb = true then nB w (w.length / 16 + 1) 1 [] else none
theorem kW {hb : Bool} {w l : List Int} (h : kD hb w = some l) : hb = true ∧ l.Nodup ∧ (∀ x ∈ l, 0 ≤ x ∧ x < ((w.length / 16 : Nat) : Int)) ∧ l.length ≤ w.length / 16 ∧ (∃ r, l = 1 :: r) ∧ ∀ x ∈ l, ∃ n, cR w x = some n ∧ n.level = 0 := by
  unfold kD at h
  split at h
  rotate_left
  · cases h
  rename_i hb
  obtain ⟨g1, g2, r, g3, g4, g5⟩ := aBG _ _ _ _ h List.nodup_nil (by simp)
  rw [List.nil_append] at g3
  subst g3
  exact ⟨hb, g1, g2, aGy g1 g2, g4 (by decide), g5⟩
def lowO (w : List Int) (n : Nd) : Option aY := if n.low = 0 then some [] else (recO w n.low).map (·.key)
def kE (w : List Int) (low : aY) : List Int → Nat → aY → Bool
  | [], _, _ => true
  | s :: r, k, last => match recO w s with
    | none => false
    | some x => decide (x.kind = 1) && !ltB x.key low && (decide (k = 0) || ltB last x.key) && kE w low r (k + 1) (if ltB last x.key then x.key else last)
def lH (w : List Int) (i : Nat) (last : aY) (b : Int) : Option aY :=
  match cR w b with
  | none => none
  | some n => match lowO w n with
    | none => none
    | some low => if ((decide (i = 0) && decide (n.low = 0)) || (decide (0 < i) && ltB last low)) && kE w low (plain n.slots) 0 low then some low else none
def jN (w : List Int) : List Int → Nat → aY → Bool
  | [], _, _ => true
  | b :: r, i, last => match lH w i last b with
    | none => false
    | some low => jN w r (i + 1) low
def iI (hb : Bool) (w : List Int) : Option (List Int) :=
  match kD hb w with
  | none => none
  | some l => if jN w l 0 [] = true then some l else none
end Lam
namespace Lam
open Go
theorem vU : ∀ a : aY, ltB a a = false
  | [] => rfl
  | a :: x => by simp [ltB, vU x]
theorem lR : ∀ {a b c : aY}, ltB a b = true → ltB b c = true → ltB a c = true
  | _, [], _, h, _ => by simp [ltB] at h
  | _, _ :: _, [], _, h => by simp [ltB] at h
  | [], _ :: _, _ :: _, _, _ => rfl
  | a :: x, b :: y, c :: z, h1, h2 => by
    simp only [ltB, Bool.or_eq_true, decide_eq_true_eq, Bool.and_eq_true, beq_iff_eq] at h1 h2 ⊢
    rcases h1 with h1 | ⟨rfl, h1⟩
    · rcases h2 with h2 | ⟨rfl, h2⟩
      · exact .inl (UInt8.lt_trans h1 h2)
      · exact .inl h1
    · rcases h2 with h2 | ⟨rfl, h2⟩
      · exact .inl h2
      · exact .inr ⟨rfl, lR h1 h2⟩
theorem aBj : ∀ (a b : aY), ltB a b = true ∨ a = b ∨ ltB b a = true
  | [], [] => .inr (.inl rfl)
  | [], _ :: _ => .inl rfl
  | _ :: _, [] => .inr (.inr rfl)
  | a :: x, b :: y => by
    simp only [ltB, Bool.or_eq_true, decide_eq_true_eq, Bool.and_eq_true, beq_iff_eq, List.cons.injEq]
    by_cases hab : a < b
    · exact .inl (.inl hab)
    by_cases hba : b < a
    · exact .inr (.inr (.inl hba))
    have e : a = b := UInt8.le_antisymm (UInt8.not_lt.1 hba) (UInt8.not_lt.1 hab)
    subst e
    rcases aBj x y with h | h | h
    · exact .inl (.inr ⟨rfl, h⟩)
    · exact .inr (.inl ⟨rfl, h⟩)
    · exact .inr (.inr (.inr ⟨rfl, h⟩))
def leB (a b : aY) : Prop := ltB b a = false
theorem qT {a b : aY} (h : ltB a b = true) : leB a b := by
  unfold leB
  cases e : ltB b a with
  | false => rfl
  | true => have := lR h e; rw [vU] at this; cases this
theorem zA (a : aY) : leB a a := vU a
theorem tK {a b c : aY} (h1 : leB a b) (h2 : leB b c) : leB a c := by
  unfold leB at *
  cases e : ltB c a with
  | false => rfl
  | true =>
    rcases aBj a b with h | rfl | h
    · have := lR e h; rw [h2] at this; cases this
    · rw [h2] at e; cases e
    · rw [h1] at h; cases h
theorem wY {a b : aY} (h : leB a b) (hne : a ≠ b) : ltB a b = true := by
  rcases aBj a b with e | e | e
  · exact e
  · exact absurd e hne
  · unfold leB at h; rw [h] at e; cases e
def d0 : RecT := ⟨0, [], [], 0⟩
def gU (l : List RecT) (i j : Nat) : List RecT := (l.set i (l.getD j d0)).set j (l.getD i d0)
theorem nF {l : List RecT} {i j : Nat} : (gU l i j).length = l.length := by simp [gU]
theorem tL {l : List RecT} {i j : Nat} (hi : i < l.length) (hj : j < l.length) (k : Nat) : (gU l i j).getD k d0 = if k = j then l.getD i d0 else if k = i then l.getD j d0 else l.getD k d0 := by
  unfold gU
  simp only [List.getD_eq_getElem?_getD, List.getElem?_set, List.length_set]
  by_cases h1 : j = k
  · subst h1; simp [hj]
  · rw [if_neg h1, if_neg (Ne.symm h1)]
    by_cases h2 : i = k
    · subst h2; simp [hi]
    · rw [if_neg h2, if_neg (Ne.symm h2)]
theorem aJw {l : List RecT} {i j : Nat} (hi : i < l.length) (hj : j < l.length) : (gU l i j).Perm l := by
  have h := @List.set_set_perm _ l i j hi hj
  have e1 : l.getD i d0 = l[i] := by rw [List.getD_eq_getElem?_getD, List.getElem?_eq_getElem hi]; rfl
  have e2 : l.getD j d0 = l[j] := by rw [List.getD_eq_getElem?_getD, List.getElem?_eq_getElem hj]; rfl
  unfold gU
  rw [e1, e2]; exact h
def SegP (a b : Nat) (l l' : List RecT) : Prop := l'.Perm l ∧ (∀ k, (k < a ∨ b ≤ k) → l'.getD k d0 = l.getD k d0) ∧ ∀ k, a ≤ k → k < b → ∃ k', a ≤ k' ∧ k' < b ∧ l'.getD k d0 = l.getD k' d0
theorem SegP.len {a b : Nat} {l l' : List RecT} (h : SegP a b l l') : l'.length = l.length := h.1.length_eq
theorem SegP.refl {a b : Nat} {l : List RecT} : SegP a b l l := ⟨.refl _, fun _ _ => rfl, fun k h1 h2 => ⟨k, h1, h2, rfl⟩⟩
theorem SegP.trans {a b : Nat} {l l' l'' : List RecT} (h : SegP a b l l') (h' : SegP a b l' l'') : SegP a b l l'' :=
  ⟨h'.1.trans h.1, fun k hk => (h'.2.1 k hk).trans (h.2.1 k hk), fun k h1 h2 => by
    obtain ⟨k', q1, q2, e⟩ := h'.2.2 k h1 h2
    obtain ⟨k'', r1, r2, e'⟩ := h.2.2 k' q1 q2
    exact ⟨k'', r1, r2, e.trans e'⟩⟩
theorem SegP.mono {a b a' b' : Nat} {l l' : List RecT} (h : SegP a b l l') (ha : a' ≤ a) (hb : b ≤ b') : SegP a' b' l l' :=
  ⟨h.1, fun k hk => h.2.1 k (by omega), fun k h1 h2 => by
    by_cases hk : a ≤ k ∧ k < b
    · obtain ⟨k', q1, q2, e⟩ := h.2.2 k hk.1 hk.2
      exact ⟨k', by omega, by omega, e⟩
    · exact ⟨k, h1, h2, h.2.1 k (by omega)⟩⟩
theorem SegP.swap {a b : Nat} {l : List RecT} {i j : Nat} (h1 : a ≤ i) (h2 : i < b) (h3 : a ≤ j) (h4 : j < b) (hb : b ≤ l.length) : SegP a b l (gU l i j) := by
  have hi : i < l.length := by omega
  have hj : j < l.length := by omega
  refine ⟨aJw hi hj, fun k hk => ?_, fun k q1 q2 => ?_⟩
  · rw [tL hi hj, if_neg (by omega), if_neg (by omega)]
  · rw [tL hi hj]
    split
    · exact ⟨i, h1, h2, rfl⟩
    · split
      · exact ⟨j, h3, h4, rfl⟩
      · exact ⟨k, q1, q2, rfl⟩
def kyL (l : List RecT) (i : Nat) : aY := (l.getD i d0).key
def SegS (a b : Nat) (l : List RecT) : Prop := ∀ p q, a ≤ p → p < q → q < b → leB (kyL l p) (kyL l q)
def InsS (a j i : Nat) (l : List RecT) : Prop := ∀ p q, a ≤ p → p < q → q < i → q ≠ j → leB (kyL l p) (kyL l q)
theorem InsS.begin {a i : Nat} {l : List RecT} (h : SegS a i l) : InsS a i (i + 1) l := fun p q h1 h2 h3 h4 => h p q h1 h2 (by omega)
theorem jK {l : List RecT} {i j : Nat} (hi : i < l.length) (hj : j < l.length) (k : Nat) : kyL (gU l i j) k = if k = j then kyL l i else if k = i then kyL l j else kyL l k := by
  unfold kyL
  rw [tL hi hj]
  split
  · rfl
  · split <;> rfl
theorem InsS.step {a j i : Nat} {l : List RecT} (h : InsS a j i l) (hj : a < j) (hji : j < i) (hi : i ≤ l.length) (hlt : ltB (kyL l j) (kyL l (j - 1)) = true) : InsS a (j - 1) i (gU l j (j - 1)) := by
  intro p q h1 h2 h3 h4
  have hjl : j < l.length := by omega
  have hjl' : j - 1 < l.length := by omega
  rw [jK hjl hjl', jK hjl hjl']
  rw [if_neg (show ¬ q = j - 1 from h4)]
  by_cases hq : q = j
  · subst hq
    rw [if_pos rfl]
    by_cases hp : p = q - 1
    · rw [if_pos hp]; exact qT hlt
    · rw [if_neg hp, if_neg (by omega)]
      exact h p (q - 1) h1 (by omega) (by omega) (by omega)
  · rw [if_neg hq]
    by_cases hp : p = j - 1
    · rw [if_pos hp]; exact h j q (by omega) (by omega) h3 hq
    · rw [if_neg hp]
      by_cases hp2 : p = j
      · rw [if_pos hp2]; exact h (j - 1) q (by omega) (by omega) h3 hq
      · rw [if_neg hp2]; exact h p q h1 h2 h3 hq
theorem InsS.done {a j i : Nat} {l : List RecT} (h : InsS a j i l) (hj : a ≤ j) (hji : j < i) (he : j = a ∨ leB (kyL l (j - 1)) (kyL l j)) : SegS a i l := by
  intro p q h1 h2 h3
  by_cases hq : q = j
  · subst hq
    rcases he with rfl | he
    · omega
    · by_cases hp : p = q - 1
      · subst hp; exact he
      · exact tK (h p (q - 1) h1 (by omega) (by omega) (by omega)) he
  · exact h p q h1 h2 h3 hq
theorem SegS.one {a b : Nat} {l : List RecT} (h : b ≤ a + 1) : SegS a b l := fun p q h1 h2 h3 => by omega
theorem SegP.same {a b : Nat} {l l' : List RecT} (h : SegP a b l l') {k : Nat} (hk : k < a ∨ b ≤ k) : kyL l' k = kyL l k := by unfold kyL; rw [h.2.1 k hk]
theorem SegP.from {a b : Nat} {l l' : List RecT} (h : SegP a b l l') {k : Nat} (h1 : a ≤ k) (h2 : k < b) : ∃ k', a ≤ k' ∧ k' < b ∧ kyL l' k = kyL l k' := by
  obtain ⟨k', q1, q2, e⟩ := h.2.2 k h1 h2
  exact ⟨k', q1, q2, by unfold kyL; rw [e]⟩
def pR (a m b : Nat) (l : List RecT) : Prop := (∀ k, a ≤ k → k < m → leB (kyL l k) (kyL l m)) ∧ ∀ k, m < k → k < b → leB (kyL l m) (kyL l k)
theorem pR.left {a m b : Nat} {l l' : List RecT} (h : pR a m b l) (s : SegP a m l l') : pR a m b l' := by
  refine ⟨fun k h1 h2 => ?_, fun k h1 h2 => ?_⟩
  · obtain ⟨k', q1, q2, e⟩ := s.from h1 h2
    rw [e, s.same (k := m) (by omega)]; exact h.1 k' q1 q2
  · rw [s.same (k := m) (by omega), s.same (k := k) (by omega)]; exact h.2 k h1 h2
theorem pR.right {a m b : Nat} {l l' : List RecT} (h : pR a m b l) (s : SegP (m + 1) b l l') : pR a m b l' := by
  refine ⟨fun k h1 h2 => ?_, fun k h1 h2 => ?_⟩
  · rw [s.same (k := m) (by omega), s.same (k := k) (by omega)]; exact h.1 k h1 h2
  · obtain ⟨k', q1, q2, e⟩ := s.from (k := k) (by omega) h2
    rw [e, s.same (k := m) (by omega)]; exact h.2 k' (by omega) q2
theorem SegS.keep {a b c d : Nat} {l l' : List RecT} (h : SegS a b l) (s : SegP c d l l') (hd : b ≤ c ∨ d ≤ a) : SegS a b l' := fun p q h1 h2 h3 => by
  rw [s.same (k := p) (by omega), s.same (k := q) (by omega)]; exact h p q h1 h2 h3
theorem pR.sorted {a m b : Nat} {l : List RecT} (h : pR a m b l) (h1 : SegS a m l) (h2 : SegS (m + 1) b l) : SegS a b l := by
  intro p q p1 p2 p3
  by_cases hq : q < m
  · exact h1 p q p1 p2 hq
  · by_cases hqm : q = m
    · subst hqm; exact h.1 p p1 p2
    · by_cases hp : p < m
      · exact tK (h.1 p p1 hp) (h.2 q (by omega) p3)
      · by_cases hpm : p = m
        · subst hpm; exact h.2 q (by omega) p3
        · exact h2 p q (by omega) p2 p3
end Lam
namespace Lam
open Go
def uO (w : List Int) (b : Int) : Option (Int × aY) := match cR w b with
  | none => none
  | some n => match lowO w n with
    | none => none
    | some l => some (n.level, l)
def rH (w : List Int) (key : aY) (out : Int) (s : Int) : Int := match recO w s with
  | none => out
  | some x => if x.kind = 2 ∧ ltB key x.key = false then x.child else out
def tM (w : List Int) (key : aY) (n : Nd) : Int := n.slots.foldl (rH w key) 0
def aGz (w : List Int) (key : aY) (n : Nd) : Option Int := match uO w (tM w key n) with
  | none => none
  | some (lv, lo) => if tM w key n = 0 ∨ lv ≠ n.level - 1 ∨ ltB key lo = true then none else some (tM w key n)
def uP (w : List Int) (b : Int) (key : aY) (level : Int) (n : Nd) : Option Int := if level < n.level then aGz w key n else some b
def kN (w : List Int) (b : Int) (key : aY) (level : Int) : Option Int := match cR w b with
  | none => none
  | some n => if n.level < level then none else
    if n.next = 0 then uP w b key level n else match uO w n.next with
      | none => none
      | some (lv, lo) => if n.next = b ∨ lv ≠ n.level then none else if ltB key lo = false then some n.next else uP w b key level n
end Lam
namespace Lam
open Go Go.Proofs
def aKP : TyD := (.tup [])
def aKQ : TyD := .func
def aIm : TyD := (.int .i64)
def aB : TyD := (.int .i64)
def lC : TyD := .bool
def lT : TyD := (.int .u8)
def cH : TyD := .str
def aBH : TyD := .iface
def aK : TyD := (.slice (.int .i64))
def cD : TyD := (.slice .pend)
def aM : TyD := (.strct [(.slice (.int .i64)), (.slice (.int .i64)), (.slice .pend)])
def bX : TyD := (.strct [(.int .i64), (.int .i64), (.int .i64), (.slice (.int .i64)), .bool])
def aU : TyD := (.strct [.str, (.int .i64), (.int .i64), (.int .i64), (.strct [(.int .i64), (.int .i64), (.int .i64), (.slice (.int .i64)), .bool]), .str, .bool])
def rI : TyD := (.tup [(.strct [(.slice (.int .i64)), (.slice (.int .i64)), (.slice .pend)]), (.strct [.str, (.int .i64), (.int .i64), (.int .i64), (.strct [(.int .i64), (.int .i64), (.int .i64), (.slice (.int .i64)), .bool]), .str, .bool])])
def cX : TyD := (.strct [(.int .i64), (.int .i64), .bool])
def aAJ : TyD := .other
def iS : TyD := (.slice (.int .u8))
def zP : TyD := (.slice .pair)
def zQ : TyD := (.strct [.str, .str, (.int .i64), (.int .i64), (.int .i64), (.int .i64), (.strct [(.int .i64), (.int .i64), (.int .i64), (.slice (.int .i64)), .bool]), .str, (.slice .pair)])
def cM : TyD := (.int .i64)
def pK : TyD := (.tup [(.strct [.str, .str, (.int .i64), (.int .i64), (.int .i64), (.int .i64), (.strct [(.int .i64), (.int .i64), (.int .i64), (.slice (.int .i64)), .bool]), .str, (.slice .pair)]), (.int .i64)])
def qU : TyD := (.tup [(.strct [(.slice (.int .i64)), (.slice (.int .i64)), (.slice .pend)]), (.strct [.str, .str, (.int .i64), (.int .i64), (.int .i64), (.int .i64), (.strct [(.int .i64), (.int .i64), (.int .i64), (.slice (.int .i64)), .bool]), .str, (.slice .pair)])])
def aDq : TyD := (.strct [.str, .str])
def tN : TyD := (.tup [(.slice (.int .i64)), (.int .i64)])
def pL : TyD := (.tup [(.slice .pair), (.int .i64)])
def pS : TyD := (.tup [(.strct [.str, (.int .i64), (.int .i64), (.int .i64), (.strct [(.int .i64), (.int .i64), (.int .i64), (.slice (.int .i64)), .bool]), .str, .bool]), (.int .i64)])
def rW : TyD := (.tup [(.strct [(.slice (.int .i64)), (.slice (.int .i64)), (.slice .pend)]), (.int .i64)])
def zR : TyD := (.tup [.str, .bool])
def xV : TyD := .func
def lU : TyD := (.map .ib)
def rJ : TyD := .func
def iN : TyD := (.arr 8 .fnk)
def eW : TyD := .ptr
def cE : TyD := (.strct [(.strct [(.slice (.int .i64)), (.slice (.int .i64)), (.slice .pend)]), (.strct [.str, (.int .i64), (.int .i64), (.int .i64), (.strct [(.int .i64), (.int .i64), (.int .i64), (.slice (.int .i64)), .bool]), .str, .bool])])
def rX : TyD := (.tup [(.int .i64), (.int .i64), (.int .i64)])
def rK : TyD := (.tup [(.strct [(.int .i64), (.int .i64), (.int .i64), (.slice (.int .i64)), .bool]), (.int .i64)])
def bD : TyD := (.strct [(.int .i64), (.int .i64), (.int .i64), (.int .i64), (.slice (.int .i64))])
def rL : TyD := (.tup [(.strct [(.int .i64), (.int .i64), (.int .i64), (.int .i64), (.slice (.int .i64))]), (.int .i64)])
def tO : TyD := (.tup [.str, (.int .i64)])
def wN : TyD := (.tup [(.int .i64), (.int .i64)])
def oT : TyD := .func
def rY : TyD := .func
def tV : TyD := .func
def rZ : TyD := .func
def dE : TyD := (.strct [(.int .i64), (.int .i64), (.int .i64), (.int .i64)])
def zS : TyD := .ptr
def fB : TyD := (.strct [(.strct [(.int .i64), (.int .i64), (.int .i64), (.slice (.int .i64)), .bool]), (.int .i64)])
def fR : TyD := (.strct [(.int .i64), (.int .i64), (.int .i64)])
def rM : TyD := (.strct [])
def aJ : TyD := (.strct [(.int .i64), .str, .str, (.int .i64)])
def sA : TyD := (.tup [(.strct [(.int .i64), .str, .str, (.int .i64)]), (.int .i64)])
def rN : TyD := (.int .u64)
def tW : TyD := (.tup [(.int .i64), .str, .bool])
def aQ : TyD := (.slice .rcd)
def tP : TyD := .func
def jX : TyD := (.slice .mic)
def dQ : TyD := (.arr 16 (.int .i64))
def lL : TyD := (.map .sb)
def nS : TyD := .func
def kF : TyD := (.int .u32)
def jQ : TyD := (.arr 256 (.int .u32))
def xW : TyD := .ptr
def lJ : TyD := (.int .u64)
def xX : TyD := .ptr
def jD : TyD := (.strct [(.strct [(.slice (.int .i64)), (.slice (.int .i64)), (.slice .pend)])])
def eZ : TyD := (.map .ifn)
def mT : TyD := .func
def pT : TyD := .func
def tX : TyD := .func
def mA : TyD := (.int .i64)
def pM : TyD := (.tup [(.int .i64), (.int .i64)])
def aDr : TyD := (.tup [(.int .i64), .bool])
def rO : TyD := .func
def dD : TyD := (.int .u64)
def aIn : TyD := .ptr
def mG : TyD := (.map .ii)
def sB : TyD := .ptr
def aEO : TyD := (.tup [(.int .i64), (.int .i64)])
def sC : TyD := .func
def xY : TyD := .func
def pU : TyD := .func
attribute [go_sem] aKP aKQ aIm aB lC lT cH aBH aK cD aM bX aU rI cX aAJ iS zP zQ cM pK qU aDq tN pL pS rW zR xV lU rJ iN eW cE rX rK bD rL tO wN oT rY tV rZ dE zS fB fR rM aJ sA rN tW aQ tP jX dQ lL nS kF jQ xW lJ xX jD eZ mT pT tX mA pM aDr rO dD aIn mG sB aEO sC xY pU
def tab : TypeId → TyD
 | 0 => aKP
 | 1 => aKQ
 | 2 => aIm
 | 3 => aB
 | 4 => lC
 | 5 => lT
 | 9 => cH
 | 20 => aBH
 | 22 => aK
 | 23 => cD
 | 25 => aM
 | 27 => bX
 | 29 => aU
 | 32 => rI
 | 37 => cX
 | 39 => aAJ
 | 40 => iS
 | 41 => zP
 | 43 => zQ
 | 44 => cM
 | 45 => pK
 | 47 => qU
 | 52 => aDq
 | 56 => tN
 | 60 => pL
 | 63 => pS
 | 65 => rW
 | 67 => zR
 | 76 => xV
 | 78 => lU
 | 79 => rJ
 | 80 => iN
 | 82 => eW
 | 84 => cE
 | 86 => rX
 | 89 => rK
 | 96 => bD
 | 97 => rL
 | 99 => tO
 | 102 => wN
 | 105 => oT
 | 106 => rY
 | 108 => tV
 | 110 => rZ
 | 114 => dE
 | 118 => zS
 | 120 => fB
 | 126 => fR
 | 128 => rM
 | 133 => aJ
 | 134 => sA
 | 136 => rN
 | 138 => tW
 | 144 => aQ
 | 147 => tP
 | 150 => jX
 | 153 => dQ
 | 159 => lL
 | 162 => nS
 | 163 => kF
 | 164 => jQ
 | 167 => xW
 | 175 => lJ
 | 177 => xX
 | 179 => jD
 | 180 => eZ
 | 182 => mT
 | 183 => pT
 | 184 => tX
 | 187 => mA
 | 188 => pM
 | 192 => aDr
 | 198 => rO
 | 200 => dD
 | 204 => aIn
 | 207 => mG
 | 211 => sB
 | 212 => aEO
 | 217 => sC
 | 218 => xY
 | 221 => pU
 | _ => .other
theorem aKR : aIE Tryz.prog tab := by
 intro T
 unfold tab
 split <;> kernel_rfl
theorem aKS (T : TypeId) : (tab T).shallow := by
 unfold tab
 split <;> (unfold TyD.shallow; decide)
theorem mixed : Tryz.prog.follows .mixedOrders = true := by kernel_rfl
def ctx (F : List (FuncId × aE)) (S : List (FuncId × Con)) (lp : Nat → bV) : Ctx := ⟨tab, mM F, nZ S, fun _ _ _ _ _ => False, lp, false, fun _ _ _ _ => False⟩
def ctxI (F : List (FuncId × aE)) (S : List (FuncId × Con)) (Is : List (FuncId × (Con → Con))) (lp : Nat → bV) : Ctx := ⟨tab, mM F, nZ S, qC Is, lp, false, fun _ _ _ _ => False⟩
@[go_sem] theorem aVG (F : List (FuncId × aE)) (S : List (FuncId × Con)) (lp : Nat → bV) : (ctx F S lp).drawn = false := (rfl)
@[go_sem] theorem aSw (F : List (FuncId × aE)) (S : List (FuncId × Con)) (Is : List (FuncId × (Con → Con))) (lp : Nat → bV) : (ctxI F S Is lp).drawn = false := (rfl)
@[go_sem] theorem aVH (F : List (FuncId × aE)) (S : List (FuncId × Con)) (Is : List (FuncId × (Con → Con))) (lp : Nat → bV) : (ctxI F S Is lp).envF = mM F := (rfl)
@[go_sem] theorem aVI (F : List (FuncId × aE)) (S : List (FuncId × Con)) (Is : List (FuncId × (Con → Con))) (lp : Nat → bV) : (ctxI F S Is lp).envS = nZ S := (rfl)
@[go_sem] theorem aSx (F : List (FuncId × aE)) (S : List (FuncId × Con)) (Is : List (FuncId × (Con → Con))) (lp : Nat → bV) : (ctxI F S Is lp).iterS = qC Is := (rfl)
@[go_sem] theorem aLZ (F : List (FuncId × aE)) (S : List (FuncId × Con)) (lp : Nat → bV) : (ctx F S lp).envF = mM F := (rfl)
@[go_sem] theorem aYu (F : List (FuncId × aE)) (S : List (FuncId × Con)) (lp : Nat → bV) : (ctx F S lp).envS = nZ S := (rfl)
theorem bP {F : List (FuncId × aE)} {S : List (FuncId × Con)} (hF : ∀ p ∈ F, bO Tryz.prog p.1 p.2) (hS : ∀ p ∈ S, cP Tryz.prog p.1 p.2) (lp : Nat → bV) : Ok Tryz.prog (ctx F S lp) :=
 ⟨⟨⟨aKR, aKS, aCc hF⟩, aCd hS, rfl, mixed, aNc⟩, fun _ _ _ _ h => h⟩
theorem aIo {F : List (FuncId × aE)} {S : List (FuncId × Con)} {Is : List (FuncId × (Con → Con))} (hF : ∀ p ∈ F, bO Tryz.prog p.1 p.2) (hS : ∀ p ∈ S, cP Tryz.prog p.1 p.2) (hI : ∀ p ∈ Is, wI Tryz.prog p.1 p.2) (lp : Nat → bV) : Ok Tryz.prog (ctxI F S Is lp) :=
 ⟨⟨⟨aKR, aKS, aCc hF⟩, aCd hS, rfl, mixed, aEB hI⟩, fun _ _ _ _ h => h⟩
end Lam
namespace Lam
open Go Go.Proofs
def fC.loops : Nat → bV
 | _ => ⟨[], [], [], [], [], []⟩
def fC.H (c : Ctx) (t0 : AV) (h : List AObj) (K : AOut → List AObj → Prop) : Prop :=
 cT cM h fun t2 h =>
 defX t2 fun dp =>
 aS false c (.fn (.func 45) [] []) [t0] h (fun t4 h =>
 runH (aR cM h t2 (.int .i64 0)) h fun _ h =>
 cZ (fitD cM (aD h t2)) fun r0 => K (.ret r0) h)
 (fun v h => yT 128 110 v dp h fun h => cZ (fitD cM (aD h t2)) fun r0 => K (.ret r0) h)
def eF.loops : Nat → bV
 | _ => ⟨[], [], [], [], [], []⟩
def eF.H (c : Ctx) (t0 : AV) (h : List AObj) (K : AOut → List AObj → Prop) : Prop :=
 cT cM h fun t3 h =>
 defX t3 fun dp =>
 aS false c (.fn (.func 50) [] []) [t0] h (fun t5 h =>
 runH (aR cM h t3 (.int .i64 0)) h fun _ h =>
 cZ (fitD cM (aD h t3)) fun r1 => K (.ret (.tup [t5, r1])) h)
 (fun v h => yT 128 110 v dp h fun h => cZ (fitD cM (aD h t3)) fun r1 => K (.ret (.tup [(.sl true (.ints .i64 [])), r1])) h)
def hG.loops : Nat → bV
 | 1 => ⟨[], [], [], [(3, none), (2, some [11, 13])], [], []⟩
 | _ => ⟨[], [], [], [], [], []⟩
def hG.H (c : Ctx) (t0 : AV) (h : List AObj) (K : AOut → List AObj → Prop) : Prop :=
 runD (binD aB .lss t0 (.int .i64 2)) h fun t10 h =>
 aL (fun (J1 : AV → AV → List AObj → Prop) =>
 bC t10 false
 (runD (binD aB .gtr t0 (.int .i64 256)) h fun t13 h =>
 J1 (.bool false) t13 h)
 (J1 (.bool true) .und h))
 (fun t11 t13 h => runD (bS t11 (.bool true) t13) h fun t14 h =>
 bF t14
 (K (.ret (.tup [(.sl true (.ints .i64 [])), (.int .i64 1)])) h)
 (aS false c (.fn (.func 56) [] []) [t0, (.int .i64 1)] h (fun t17 h =>
 runD (bE t17 0) h fun t18 h =>
 runD (bE t17 1) h fun t19 h =>
 runD (gY bD []) h fun t21 h =>
 aS false c (.fn (.func 57) [] []) [t21] h (fun t22 h =>
 runD (bE t22 0) h fun t23 h =>
 runD (bE t22 1) h fun t24 h =>
 runD (binD aB .mul (.int .i64 16) t0) h fun t26 h =>
 runD (jY aK t26 t26 h.length) h fun t27 h =>
 runM (lX aK h t27 t18) h fun t30 h =>
 runD (eH aK h t27 (some (.int .i64 16)) none none) h fun t32 h =>
 runM (lX aK h t32 t23) h fun t34 h =>
 K (.ret (.tup [t27, (.int .i64 0)])) h)
 (fun v h => K (.pan v) h))
 (fun v h => K (.pan v) h)))
def dX.loops : Nat → bV
 | 4 => ⟨[4, 17], [false, false], [0, 3, 15, 16], [], [], []⟩
 | 8 => ⟨[], [], [], [(3, none), (3, some [30, 33]), (2, none), (7, some [35, 42])], [], []⟩
 | 11 => ⟨[4, 50], [false, false], [0, 3, 8, 15, 16, 17, 48, 49], [], [], []⟩
 | 14 => ⟨[], [], [], [(3, none), (3, some [63, 66]), (2, none), (4, some [68, 72]), (2, none), (8, some [74, 82])], [], []⟩
 | _ => ⟨[], [], [], [], [], []⟩
def dX.L2 (c : Ctx) (J6 : AV → AV → AV → AV → AV → AV → List AObj → Prop) (K : AOut → List AObj → Prop) (lv : List AV) (h0 : List AObj) (n0 : Nat) (c0 : AV) (c3 : AV) (c8 : AV) (c15 : AV) (c16 : AV) (c17 : AV) (c48 : AV) (c49 : AV) : Prop :=
 ∃ I : Nat → List AV → List AObj → Prop, (∃ n, I n lv h0) ∧ ∀ n h, ∀ t4, ∀ t50, I n [t4, t50] h →
 runD (binD aB .lss t50 c49) h fun t51 h =>
 bF t51
 (runD (aG aK h c48 t50) h fun t53 h =>
 runD (fitD aB (aD h t53)) h fun t54 h =>
 aS false c (.fn (.func 79) [] []) [c0, t54] h (fun t58 h =>
 runD (bE t58 0) h fun t59 h =>
 runD (bE t58 1) h fun t60 h =>
 cT aJ h fun t11 h =>
 runH (aR aJ h t11 t59) h fun _ h =>
 runD (binD cM .eql t60 (.int .i64 0)) h fun t62 h =>
 aL (fun (J7 : AV → AV → List AObj → Prop) =>
 bC t62 true
 (runD (aC aJ t11 0) h fun t64 h =>
 runD (fitD aB (aD h t64)) h fun t65 h =>
 runD (binD aB .eql t65 (.int .i64 1)) h fun t66 h =>
 J7 (.bool true) t66 h)
 (J7 (.bool false) .und h))
 (fun t63 t66 h => runD (bS t63 t66 (.bool false)) h fun t67 h =>
 aL (fun (J8 : AV → AV → List AObj → Prop) =>
 bC t67 true
 (runD (aC aJ t11 1) h fun t69 h =>
 runD (fitD cH (aD h t69)) h fun t70 h =>
 runD (binD cH .geq t70 c8) h fun t72 h =>
 J8 (.bool true) t72 h)
 (J8 (.bool false) .und h))
 (fun t68 t72 h => runD (bS t68 t72 (.bool false)) h fun t73 h =>
 aL (fun (J9 : AV → AV → List AObj → Prop) =>
 bC t73 true
 (runD (binD aB .eql t50 (.int .i64 0)) h fun t76 h =>
 aL (fun (J10 : AV → AV → List AObj → Prop) =>
 bC t76 false
 (runD (aC aJ t11 1) h fun t78 h =>
 runD (fitD cH (aD h t78)) h fun t79 h =>
 runD (binD cH .gtr t79 t4) h fun t81 h =>
 J10 (.bool false) t81 h)
 (J10 (.bool true) .und h))
 (fun t77 t81 h => runD (bS t77 (.bool true) t81) h fun t82 h =>
 J9 (.bool true) t82 h))
 (J9 (.bool false) .und h))
 (fun t74 t82 h => runD (bS t74 t82 (.bool false)) h fun t83 h =>
 aS false c (.fn (.func 77) [] []) [t83] h (fun t84 h =>
 runD (aC aJ t11 1) h fun t86 h =>
 runD (fitD cH (aD h t86)) h fun t87 h =>
 runD (maxD t4 t87) h fun t88 h =>
 runD (binD aB .add t50 (.int .i64 1)) h fun t89 h =>
 (∃ m, m < n ∧ I m (AV.norms n0 h [t88, t89]) (cI n0 h)) ∧ AV.norms n0 h [c0, c3, c8, c15, c16, c17, c48, c49] = [c0, c3, c8, c15, c16, c17, c48, c49])
 (fun v h => K (.pan v) h)))))
 (fun v h => K (.pan v) h))
 (J6 c0 c3 c8 c15 c16 c17 h)
def dX.L1 (c : Ctx) (J1 : AV → List AObj → Prop) (K : AOut → List AObj → Prop) (lv : List AV) (h0 : List AObj) (n0 : Nat) (c0 : AV) (c3 : AV) (c15 : AV) (c16 : AV) : Prop :=
 ∃ I : Nat → List AV → List AObj → Prop, (∃ n, I n lv h0) ∧ ∀ n h, ∀ t4, ∀ t17, I n [t4, t17] h →
 runD (binD aB .lss t17 c16) h fun t18 h =>
 bF t18
 (aL (fun (J2 : AV → AV → AV → AV → AV → AV → List AObj → Prop) =>
 runD (aG aK h c15 t17) h fun t20 h =>
 runD (fitD aB (aD h t20)) h fun t21 h =>
 aS false c (.fn (.func 75) [] []) [c0, t21] h (fun t24 h =>
 cT bD h fun t7 h =>
 runH (aR bD h t7 t24) h fun _ h =>
 runD (fitD bD (aD h t7)) h fun t26 h =>
 aS false c (.fn (.func 76) [] []) [c0, t26] h (fun t27 h =>
 runD (binD aB .eql t17 (.int .i64 0)) h fun t29 h =>
 aL (fun (J3 : AV → AV → List AObj → Prop) =>
 bC t29 true
 (runD (aC bD t7 3) h fun t31 h =>
 runD (fitD aB (aD h t31)) h fun t32 h =>
 runD (binD aB .eql t32 (.int .i64 0)) h fun t33 h =>
 J3 (.bool true) t33 h)
 (J3 (.bool false) .und h))
 (fun t30 t33 h => runD (bS t30 t33 (.bool false)) h fun t34 h =>
 aL (fun (J4 : AV → AV → List AObj → Prop) =>
 bC t34 false
 (runD (binD aB .gtr t17 (.int .i64 0)) h fun t37 h =>
 aL (fun (J5 : AV → AV → List AObj → Prop) =>
 bC t37 true
 (runD (binD cH .gtr t27 t4) h fun t41 h =>
 J5 (.bool true) t41 h)
 (J5 (.bool false) .und h))
 (fun t38 t41 h => runD (bS t38 t41 (.bool false)) h fun t42 h =>
 J4 (.bool false) t42 h))
 (J4 (.bool true) .und h))
 (fun t35 t42 h => runD (bS t35 (.bool true) t42) h fun t43 h =>
 aS false c (.fn (.func 77) [] []) [t43] h (fun t44 h =>
 runD (aC bD t7 4) h fun t46 h =>
 runD (fitD aK (aD h t46)) h fun t47 h =>
 aS false c (.fn (.func 78) [] []) [t47] h (fun t48 h =>
 runD (lenD aK h t48) h fun t49 h =>
 aL (fun (J6 : AV → AV → AV → AV → AV → AV → List AObj → Prop) =>
 dP [false, false] [t27, (.int .i64 0)] h fun lv h => dX.L2 c J6 K (AV.norms h.length h lv) (cI h.length h) h.length (AV.norm h.length h c0) (AV.norm h.length h c3) (AV.norm h.length h t27) (AV.norm h.length h c15) (AV.norm h.length h c16) (AV.norm h.length h t17) (AV.norm h.length h t48) (AV.norm h.length h t49))
 (fun t0 t3 t8 t15 t16 t17 h => J2 t0 t3 t8 t15 t16 t17 h))
 (fun v h => K (.pan v) h))
 (fun v h => K (.pan v) h))))
 (fun v h => K (.pan v) h))
 (fun v h => K (.pan v) h))
 (fun t0 t3 t4 t15 t16 t17 h => runD (binD aB .add t17 (.int .i64 1)) h fun t91 h =>
 (∃ m, m < n ∧ I m (AV.norms n0 h [t4, t91]) (cI n0 h)) ∧ AV.norms n0 h [t0, t3, t15, t16] = [c0, c3, c15, c16]))
 (J1 c3 h)
def dX.H (c : Ctx) (t0 : AV) (h : List AObj) (K : AOut → List AObj → Prop) : Prop :=
 aS false c (.fn (.func 50) [] []) [t0] h (fun t14 h =>
 runD (lenD aK h t14) h fun t16 h =>
 aL (fun (J1 : AV → List AObj → Prop) =>
 dP [false, false] [(.str []), (.int .i64 0)] h fun lv h => dX.L1 c J1 K (AV.norms h.length h lv) (cI h.length h) h.length (AV.norm h.length h t0) (AV.norm h.length h t14) (AV.norm h.length h t14) (AV.norm h.length h t16))
 (fun t3 h => K (.ret t3) h))
 (fun v h => K (.pan v) h)
def dU.loops : Nat → bV
 | _ => ⟨[], [], [], [], [], []⟩
def dU.H (c : Ctx) (t0 : AV) (t1 : AV) (h : List AObj) (K : AOut → List AObj → Prop) : Prop :=
 cT cM h fun t5 h =>
 defX t5 fun dp =>
 aS false c (.fn (.func 75) [] []) [t0, t1] h (fun t9 h =>
 aS false c (.fn (.func 76) [] []) [t0, t9] h (fun t10 h =>
 runH (aR cM h t5 (.int .i64 0)) h fun _ h =>
 cZ (fitD cM (aD h t5)) fun r1 => K (.ret (.tup [t10, r1])) h)
 (fun v h => yT 128 110 v dp h fun h => cZ (fitD cM (aD h t5)) fun r1 => K (.ret (.tup [(.str []), r1])) h))
 (fun v h => yT 128 110 v dp h fun h => cZ (fitD cM (aD h t5)) fun r1 => K (.ret (.tup [(.str []), r1])) h)
def dF.loops : Nat → bV
 | 4 => ⟨[2, 6], [true, false], [0], [], [], []⟩
 | 6 => ⟨[], [], [], [(4, none), (4, some [25, 29])], [], []⟩
 | _ => ⟨[], [], [], [], [], []⟩
def dF.L1 (c : Ctx) (J1 : AV → List AObj → Prop) (K : AOut → List AObj → Prop) (lv : List AV) (h0 : List AObj) (n0 : Nat) (c0 : AV) : Prop :=
 ∃ I : Nat → List AV → List AObj → Prop, (∃ n, I n lv h0) ∧ ∀ n h, ∀ t2, ∀ t6, I n [t2, t6] h →
 runD (binD aB .neq t6 (.int .i64 0)) h fun t18 h =>
 bF t18
 (aS false c (.fn (.func 75) [] []) [c0, t6] h (fun t21 h =>
 cT bD h fun t7 h =>
 runH (aR bD h t7 t21) h fun _ h =>
 runD (aC bD t7 0) h fun t22 h =>
 runD (fitD aB (aD h t22)) h fun t23 h =>
 runD (binD aB .eql t23 (.int .i64 0)) h fun t24 h =>
 aL (fun (J2 : AV → AV → List AObj → Prop) =>
 bC t24 true
 (aS false c (.fn (.func 83) [] []) [t2, t6] h (fun t28 h =>
 runD (unD .not t28) h fun t29 h =>
 J2 (.bool true) t29 h)
 (fun v h => K (.pan v) h))
 (J2 (.bool false) .und h))
 (fun t25 t29 h => runD (bS t25 t29 (.bool false)) h fun t30 h =>
 aS false c (.fn (.func 77) [] []) [t30] h (fun t31 h =>
 runD (gA aK 1 [(0, t6)] h.length) h fun t34 h =>
 jZ (gP aK h t2 t34 h.length) (hX aK h t2 t34) h fun t35 h =>
 runD (aC bD t7 2) h fun t36 h =>
 runD (fitD aB (aD h t36)) h fun t37 h =>
 sepB t2 [t36] = true ∧ (∃ m, m < n ∧ I m (AV.norms n0 h [t35, t37]) (cI n0 h)) ∧ AV.norms n0 h [c0] = [c0])
 (fun v h => K (.pan v) h)))
 (fun v h => K (.pan v) h))
 (J1 t2 h)
def dF.H (c : Ctx) (t0 : AV) (h : List AObj) (K : AOut → List AObj → Prop) : Prop :=
 aS false c (.fn (.func 38) [] []) [t0] h (fun t10 h =>
 runD (bE t10 0) h fun t11 h =>
 runD (bE t10 1) h fun t12 h =>
 runD (bE t10 2) h fun t13 h =>
 runD (binD cM .eql t13 (.int .i64 0)) h fun t15 h =>
 aS false c (.fn (.func 77) [] []) [t15] h (fun t16 h =>
 aL (fun (J1 : AV → List AObj → Prop) =>
 dP [true, false] [(.sl true (.ints .i64 [])), (.int .i64 1)] h fun lv h => dF.L1 c J1 K (AV.norms h.length h lv) (cI h.length h) h.length (AV.norm h.length h t0))
 (fun t2 h => K (.ret t2) h))
 (fun v h => K (.pan v) h))
 (fun v h => K (.pan v) h)
def cN.loops : Nat → bV
 | _ => ⟨[], [], [], [], [], []⟩
def cN.H (c : Ctx) (t0 : AV) (t1 : AV) (h : List AObj) (K : AOut → List AObj → Prop) : Prop :=
 cT bD h fun t4 h =>
 aS false c (.fn (.func 46) [] []) [t0, t1] h (fun t10 h =>
 runD (bE t10 0) h fun t11 h =>
 runD (bE t10 1) h fun t12 h =>
 cT bD h fun t5 h =>
 runH (aR bD h t5 t11) h fun _ h =>
 runD (binD cM .eql t12 (.int .i64 0)) h fun t14 h =>
 aS false c (.fn (.func 77) [] []) [t14] h (fun t15 h =>
 runD (fitD bD (aD h t5)) h fun t16 h =>
 runH (aR bD h t4 t16) h fun _ h =>
 cZ (fitD bD (aD h t4)) fun r0 => K (.ret r0) h)
 (fun v h => K (.pan v) h))
 (fun v h => K (.pan v) h)
def dG.loops : Nat → bV
 | _ => ⟨[], [], [], [], [], []⟩
def dG.H (c : Ctx) (t0 : AV) (t1 : AV) (h : List AObj) (K : AOut → List AObj → Prop) : Prop :=
 boxW bD t1 h fun t3 h =>
 runD (aC bD t3 3) h fun t5 h =>
 runD (fitD aB (aD h t5)) h fun t6 h =>
 runD (binD aB .eql t6 (.int .i64 0)) h fun t7 h =>
 bF t7
 (K (.ret (.str [])) h)
 (runD (aC bD t3 3) h fun t9 h =>
 runD (fitD aB (aD h t9)) h fun t10 h =>
 aS false c (.fn (.func 97) [] []) [t0, t10] h (fun t11 h =>
 K (.ret t11) h)
 (fun v h => K (.pan v) h))
def cC.loops : Nat → bV
 | _ => ⟨[], [], [], [], [], []⟩
def cC.H (c : Ctx) (t0 : AV) (h : List AObj) (K : AOut → List AObj → Prop) : Prop :=
 runD (unD .not t0) h fun t3 h =>
 aL (fun (J1 : List AObj → Prop) =>
 bF t3
 (runD (gY rM []) h fun t4 h =>
 K (.pan (.iface 128 t4)) h)
 (J1 h))
 (fun h => K (.ret (.tup [])) h)
def eI.loops : Nat → bV
 | _ => ⟨[], [], [], [], [], []⟩
def eI.H (c : Ctx) (t0 : AV) (t1 : AV) (h : List AObj) (K : AOut → List AObj → Prop) : Prop :=
 aS false c (.fn (.func 79) [] []) [t0, t1] h (fun t10 h =>
 runD (bE t10 0) h fun t11 h =>
 runD (bE t10 1) h fun t12 h =>
 cT aJ h fun t5 h =>
 runH (aR aJ h t5 t11) h fun _ h =>
 runD (binD cM .eql t12 (.int .i64 0)) h fun t14 h =>
 aS false c (.fn (.func 77) [] []) [t14] h (fun t15 h =>
 runD (aC aJ t5 1) h fun t16 h =>
 runD (fitD cH (aD h t16)) h fun t17 h =>
 K (.ret t17) h)
 (fun v h => K (.pan v) h))
 (fun v h => K (.pan v) h)
theorem fC.eq (F : List (FuncId × aE)) (S : List (FuncId × Con)) (t0 : AV) (h : List AObj) (K : AOut → List AObj → Prop) : aBf (ctx F S fC.loops) Tryz.f22 44 128 110 [t0] h K = fC.H (ctx F S fC.loops) t0 h K := by kernel_rfl
theorem eF.eq (F : List (FuncId × aE)) (S : List (FuncId × Con)) (t0 : AV) (h : List AObj) (K : AOut → List AObj → Prop) : aBf (ctx F S eF.loops) Tryz.f24 44 128 110 [t0] h K = eF.H (ctx F S eF.loops) t0 h K := by kernel_rfl
theorem hG.eq (F : List (FuncId × aE)) (S : List (FuncId × Con)) (t0 : AV) (h : List AObj) (K : AOut → List AObj → Prop) : funW (ctx F S hG.loops) Tryz.f32 [t0] h K = hG.H (ctx F S hG.loops) t0 h K := by kernel_rfl
theorem dX.eq (F : List (FuncId × aE)) (S : List (FuncId × Con)) (t0 : AV) (h : List AObj) (K : AOut → List AObj → Prop) : funW (ctx F S dX.loops) Tryz.f45 [t0] h K = dX.H (ctx F S dX.loops) t0 h K := by kernel_rfl
theorem dU.eq (F : List (FuncId × aE)) (S : List (FuncId × Con)) (t0 t1 : AV) (h : List AObj) (K : AOut → List AObj → Prop) : aBf (ctx F S dU.loops) Tryz.f47 44 128 110 [t0, t1] h K = dU.H (ctx F S dU.loops) t0 t1 h K := by kernel_rfl
theorem dF.eq (F : List (FuncId × aE)) (S : List (FuncId × Con)) (t0 : AV) (h : List AObj) (K : AOut → List AObj → Prop) : funW (ctx F S dF.loops) Tryz.f50 [t0] h K = dF.H (ctx F S dF.loops) t0 h K := by kernel_rfl
theorem cN.eq (F : List (FuncId × aE)) (S : List (FuncId × Con)) (t0 t1 : AV) (h : List AObj) (K : AOut → List AObj → Prop) : funW (ctx F S cN.loops) Tryz.f75 [t0, t1] h K = cN.H (ctx F S cN.loops) t0 t1 h K := by kernel_rfl
theorem dG.eq (F : List (FuncId × aE)) (S : List (FuncId × Con)) (t0 t1 : AV) (h : List AObj) (K : AOut → List AObj → Prop) : funW (ctx F S dG.loops) Tryz.f76 [t0, t1] h K = dG.H (ctx F S dG.loops) t0 t1 h K := by kernel_rfl
theorem cC.eq (F : List (FuncId × aE)) (S : List (FuncId × Con)) (t0 : AV) (h : List AObj) (K : AOut → List AObj → Prop) : funW (ctx F S cC.loops) Tryz.f77 [t0] h K = cC.H (ctx F S cC.loops) t0 h K := by kernel_rfl
theorem eI.eq (F : List (FuncId × aE)) (S : List (FuncId × Con)) (t0 t1 : AV) (h : List AObj) (K : AOut → List AObj → Prop) : funW (ctx F S eI.loops) Tryz.f97 [t0, t1] h K = eI.H (ctx F S eI.loops) t0 t1 h K := by kernel_rfl
theorem fC.at : Tryz.prog.funcs[22]? = some Tryz.f22 := by kernel_rfl
theorem fC.nm : (Tryz.f22.name == "runtime.NumGoroutine") = false := by kernel_rfl
theorem fC.bd : Tryz.f22.body.isNone = false := by kernel_rfl
theorem eF.at : Tryz.prog.funcs[24]? = some Tryz.f24 := by kernel_rfl
theorem eF.nm : (Tryz.f24.name == "runtime.NumGoroutine") = false := by kernel_rfl
theorem eF.bd : Tryz.f24.body.isNone = false := by kernel_rfl
theorem hG.at : Tryz.prog.funcs[32]? = some Tryz.f32 := by kernel_rfl
theorem hG.nm : (Tryz.f32.name == "runtime.NumGoroutine") = false := by kernel_rfl
theorem hG.bd : Tryz.f32.body.isNone = false := by kernel_rfl
theorem dX.at : Tryz.prog.funcs[45]? = some Tryz.f45 := by kernel_rfl
theorem dX.nm : (Tryz.f45.name == "runtime.NumGoroutine") = false := by kernel_rfl
theorem dX.bd : Tryz.f45.body.isNone = false := by kernel_rfl
theorem dU.at : Tryz.prog.funcs[47]? = some Tryz.f47 := by kernel_rfl
theorem dU.nm : (Tryz.f47.name == "runtime.NumGoroutine") = false := by kernel_rfl
theorem dU.bd : Tryz.f47.body.isNone = false := by kernel_rfl
theorem dF.at : Tryz.prog.funcs[50]? = some Tryz.f50 := by kernel_rfl
theorem dF.nm : (Tryz.f50.name == "runtime.NumGoroutine") = false := by kernel_rfl
theorem dF.bd : Tryz.f50.body.isNone = false := by kernel_rfl
theorem cN.at : Tryz.prog.funcs[75]? = some Tryz.f75 := by kernel_rfl
theorem cN.nm : (Tryz.f75.name == "runtime.NumGoroutine") = false := by kernel_rfl
theorem cN.bd : Tryz.f75.body.isNone = false := by kernel_rfl
theorem dG.at : Tryz.prog.funcs[76]? = some Tryz.f76 := by kernel_rfl
theorem dG.nm : (Tryz.f76.name == "runtime.NumGoroutine") = false := by kernel_rfl
theorem dG.bd : Tryz.f76.body.isNone = false := by kernel_rfl
theorem cC.at : Tryz.prog.funcs[77]? = some Tryz.f77 := by kernel_rfl
theorem cC.nm : (Tryz.f77.name == "runtime.NumGoroutine") = false := by kernel_rfl
theorem cC.bd : Tryz.f77.body.isNone = false := by kernel_rfl
theorem eI.at : Tryz.prog.funcs[97]? = some Tryz.f97 := by kernel_rfl
theorem eI.nm : (Tryz.f97.name == "runtime.NumGoroutine") = false := by kernel_rfl
theorem eI.bd : Tryz.f97.body.isNone = false := by kernel_rfl
end Lam
namespace Lam
open Go Go.Proofs
theorem kG.at : Tryz.prog.funcs[44]? = some Tryz.f44 := by kernel_rfl
theorem kG.nm : (Tryz.f44.name == "runtime.NumGoroutine") = false := by kernel_rfl
theorem kG.bd : Tryz.f44.body.isNone = false := by kernel_rfl
theorem aIp : Tryz.prog.underlying 20 = some (.interface (Tryz.prog.methodsAt 20)) := by kernel_rfl
theorem aMa (q : Value) (w : World) : ∃ c, Tryz.f44.body = some c ∧ ∀ (Q : Exit → Act → List Frame → World → Prop) (c₀ : Frame) (cs : List Frame), c₀.mode = .returning → (∀ a', a'.defers = [] → Q .normal a' (c₀ :: cs) w) →
      c.wpS Tryz.prog Q { tmps := #[q] ++ Array.replicate 12 undef, defers := [] } (c₀ :: cs) w := by
  delta Tryz.f44
  refine ⟨_, rfl, fun Q c₀ cs hu hQ => wpS_seq (wpS_region ?_)⟩
  simp [wpOpsS, Region.wanted, execOp, resolve, invoke, builtin, recoverD, hu, Exit.thenS, Act.put]
  refine wpS_of_wp (wp_block (wp_seq (wp_region ?_)))
  simp [wpOps, Region.wanted, Oper.wp, Oper.upon, execOp, Act.eval, Act.put, eqGuard, binOp, run_equal_nil_nil w 20 aIp]
  refine .inl (wp_cond_true (by simp [Act.eval]) (wp_region ?_))
  simp [wpOps, Region.wanted, Oper.wp, Oper.upon, execOp, Act.eval, Act.put, Exit.inBlock]
  exact .inl (hQ _ rfl)
def rP : Code → Nat × Array Oper × Nat × Array Oper
  | .seq _ (.block _ (.seq _ (.cond _ _ (.seq _ (.cond _ (.seq (.region i a _) (.region j b _)) _))))) => (i, a, j, b)
  | _ => (0, #[], 0, #[])
def aFx (c : Code) : List Oper := (rP c).2.1.toList
def aFy (c : Code) : List Oper := (rP c).2.2.2.toList
abbrev vV : Ctx := ctx [] [] cC.loops
theorem qV : Ok Tryz.prog vV := bP (by simp) (by simp) _
theorem aMb (q : Value) : ∃ c, Tryz.f44.body = some c ∧ (aFx c).all (fun o => match o.dst with | none => true | some d => Nat.blt d 13) = true ∧ (aFy c).all (fun o => match o.dst with | none => true | some d => Nat.blt d 13) = true ∧
      (∀ (h : List AObj) (id : Nat) (n : Int) (KP : List (Nat × AV) → AV → List AObj → Prop), h[id]? = some (.box (.int .i64 n)) → opsW vV [] (aFx c) KP (fun t h' => opsW vV [] (aFy c) KP (fun _ h' => h' = (h ++ [AObj.box (.agg [])]).set id (AObj.box (.int .i64 110))) (aFy c) [] t h') (aFx c) [] [(0, .ptr id []), (10, .agg [])] h) ∧
      ∀ (u : Value) (w : World) (Q : Exit → Act → List Frame → World → Prop) (c₀ : Frame) (cs : List Frame), c₀.mode = .panicking [{ v := .iface 128 u, recovered := false }] →
      (∀ a : Act, a.defers = [] → a.tmps.size = 13 → a.tmps.getD 0 undef = q → a.tmps.getD 10 undef = u →
        (Code.seq (.region (rP c).1 (rP c).2.1 false) (.region (rP c).2.2.1 (rP c).2.2.2 false)).wpIn (FW none) 0 Tryz.prog (Exit.inBlock 0 fun e a' w' => Q e a' ({ c₀ with mode := .panicking [{ v := .iface 128 u, recovered := true }] } :: cs) w') a w) →
      c.wpS Tryz.prog Q { tmps := #[q] ++ Array.replicate 12 undef, defers := [] } (c₀ :: cs) w := by
  delta Tryz.f44
  refine ⟨_, rfl, by decide, by decide, ?_, fun u w Q c₀ cs hu hQ => wpS_seq (wpS_region ?_)⟩
  · intro h id n KP hid
    have hlt := (List.getElem?_eq_some_iff.1 hid).1
    have e1 : (h ++ [AObj.box (.agg [])])[h.length]? = some (.box (.agg [])) := by simp
    have e2 : ∀ o, ((h ++ [AObj.box (.agg [])]).set h.length o)[id]? = some (.box (.int .i64 n)) := fun o => by
      rw [List.getElem?_set, if_neg (by omega), List.getElem?_append_left hlt]; exact hid
    show cT (.strct []) h fun t3 h1 => runH (aR (.strct []) h1 t3 (.agg [])) h1 fun _ h => runD (bK (.ptr id [])) h fun t12 h => runH (aR (.int .i64) h t12 (.int .i64 110)) h fun _ h' => h' = _
    simp only [e1, e2, go_sem, reduceEqDiff, Nat.reduceLT, reduceAdd, reduceSub, reduceLeDiff, reduceReplicate, reduceToNat]
    have e3 : (h ++ [AObj.box (.agg [])]).set h.length (AObj.box (.agg [])) = h ++ [AObj.box (.agg [])] := by simp
    rw [e3]
  · simp [wpOpsS, Region.wanted, execOp, resolve, invoke, builtin, recoverD, hu, Exit.thenS, Act.put]
    refine wpS_of_wp (wp_block (wp_seq (wp_region ?_)))
    simp [wpOps, Region.wanted, Oper.wp, Oper.upon, execOp, Act.eval, Act.put, eqGuard, binOp, run_equal_held_nil w 20 128 u aIp]
    refine .inl (wp_cond_false (by simp [Act.eval]) (wp_seq (wp_region ?_)))
    have hta : (Instr.typeAssert (.iface 128 u) 20 128 true).run Tryz.prog w = .ok (.tuple #[u, .bool true]) w := by
      have h0 : Tryz.prog.underlying 128 = some (.struct #[]) := by kernel_rfl
      simp [Instr.typeAssert, underlying, h0]
    have hr3 : List.range 3 = [0, 1, 2] := rfl
    simp [hr3, wpOps, Region.wanted, Oper.wp, Oper.upon, execOp, Act.eval, Act.put, hta, Instr.extract]
    refine .inl (.inl (.inl (wp_cond_true (by simp [Act.eval]) (wpIn_wide.1 (hQ { tmps := _, defers := [] } rfl ?_ ?_ ?_))))) <;> simp
theorem kG.tspec : aJd Tryz.prog 44 128 110 := by
  refine ⟨sJ kG.at kG.nm kG.bd, fun q w => ?_, fun X id q z n H hq hz hbox => ?_⟩
  · obtain ⟨c, hb, h⟩ := aMa q w
    refine wJ kG.at hb fun c₀ cs hu => h _ c₀ cs hu fun a' hd => ?_
    refine ⟨hd, .returning, ?_, .tuple #[], ?_, ⟨_, rfl⟩, rfl, rfl⟩
    · rw [← hu]
    · have : Tryz.f44.results = #[] := by kernel_rfl
      rw [uL, this, Array.mapM_eq_mapM_toList]; rfl
  · simp only [VV] at hz
    obtain ⟨u, rfl, hu⟩ := hz
    obtain ⟨c, hb, hd1, hd2, hW, h⟩ := aMb q
    refine wJ kG.at hb fun c₀ cs hc => h u X.w _ c₀ cs hc fun a had hs h0 h10 => wpIn_seq (wpIn_region_list ?_)
    have R : SR 13 ⟨X.w.heap.size, []⟩ X [(0, .ptr id []), (10, .agg [])] a := by
      refine ⟨fun i => ?_, Nat.le_of_eq hs.symm, [], had, trivial⟩
      simp only [get]
      split
      · rename_i e; obtain rfl := Nat.eq_of_beq_eq_true e; rw [h0]; exact hq
      · split
        · rename_i e; obtain rfl := Nat.eq_of_beq_eq_true e; rw [h10]; exact hu
        · trivial
    have dst : ∀ {l : List Oper}, (l.all fun o => match o.dst with | none => true | some d => Nat.blt d 13) = true → ∀ o ∈ l, ∀ i, o.dst = some i → i < 13 := by
      intro l hl o ho i hi
      rw [List.all_eq_true] at hl
      have := hl o ho
      rw [hi] at this
      simpa using this
    have hw := hW X.h id n (fun _ _ _ => False) hbox
    have := nL (ro := none) (n := 13) (ds := ⟨X.w.heap.size, []⟩) (rest := []) (c := vV) qV.ok qV.s qV.plain (B := X) (fun l => yR (qV.y l)) 0 (rP c).2.1 (aFx c) [] _ X a (dst hd1) (Kn.nil _) (Ext.refl X) H R hw
      (Q := Exit.then ((Code.region (rP c).2.2.1 (rP c).2.2.2 false).wpIn (FW none) 0 Tryz.prog (Exit.inBlock 0 fun e a' w' => bodyPostS Tryz.prog Tryz.f44 c₀ cs (fun e u' w' => (∃ v, e = .returned v) ∧ u' = .panicking [{ v := .iface 128 u, recovered := true }] ∧
      ∃ Y : Cx, Y.w = w' ∧ HR Y ∧ Ext X Y ∧ Y.h = (X.h ++ [AObj.box (.agg [])]).set id (AObj.box (.int .i64 110))) e a' ({ c₀ with mode := .panicking [{ v := .iface 128 u, recovered := true }] } :: cs) w')) (Exit.inBlock 0 fun e a' w' => bodyPostS Tryz.prog Tryz.f44 c₀ cs (fun e u' w' => (∃ v, e = .returned v) ∧ u' = .panicking [{ v := .iface 128 u, recovered := true }] ∧
      ∃ Y : Cx, Y.w = w' ∧ HR Y ∧ Ext X Y ∧ Y.h = (X.h ++ [AObj.box (.agg [])]).set id (AObj.box (.int .i64 110))) e a' ({ c₀ with mode := .panicking [{ v := .iface 128 u, recovered := true }] } :: cs) w')) ?_ (fun Y t' v q a' HY EY RY hf hv => hf.elim)
    · rw [List.append_nil] at this; exact this
    intro Y t' a' HY EY RY hs hk
    refine wpIn_region_list (F := FW none) (n := 0) (id := (rP c).2.2.1) ?_
    have := nL (ro := none) (n := 13) (ds := ⟨X.w.heap.size, []⟩) (rest := []) (c := vV) qV.ok qV.s qV.plain (B := Y) (fun l => yR (qV.y l)) 0 (rP c).2.2.2 (aFy c) [] _ Y a' (dst hd2) (Kn.nil _) (Ext.refl Y) HY RY hk
      (Q := Exit.inBlock 0 fun e a' w' => bodyPostS Tryz.prog Tryz.f44 c₀ cs (fun e u' w' => (∃ v, e = .returned v) ∧ u' = .panicking [{ v := .iface 128 u, recovered := true }] ∧
      ∃ Y : Cx, Y.w = w' ∧ HR Y ∧ Ext X Y ∧ Y.h = (X.h ++ [AObj.box (.agg [])]).set id (AObj.box (.int .i64 110))) e a' ({ c₀ with mode := .panicking [{ v := .iface 128 u, recovered := true }] } :: cs) w') ?_ (fun Y t' v q a' HY EY RY hf hv => hf.elim)
    · rw [List.append_nil] at this; exact this
    intro Z t'' a'' HZ EZ RZ hs2 hk2
    refine ⟨by rw [hs2.2, hs.2, had], _, rfl, .tuple #[], ?_, ⟨_, rfl⟩, rfl, Z, rfl, HZ, EY.trans EZ, hk2⟩
    have : Tryz.f44.results = #[] := by kernel_rfl
    rw [uL, this, Array.mapM_eq_mapM_toList]; rfl
end Lam
namespace Lam
open Go Go.Proofs
def aX.loops : Nat → bV
 | _ => ⟨[], [], [], [], [], []⟩
def aX.H (c : Ctx) (t0 : AV) (h : List AObj) (K : AOut → List AObj → Prop) : Prop :=
 sU (AV.len aK h t0) h fun t4 h =>
 bF t4
 (K (.ret (.sl true (.ints .i64 []))) h)
 (runD (gA aK 0 [] h.length) h fun t5 h =>
 jZ (gP aK h t5 t0 h.length) (hX aK h t5 t0) h fun t7 h =>
 K (.ret t7) h)
def bT.loops : Nat → bV
 | 4 => ⟨[13], [false], [0, 1, 12], [], [], []⟩
 | _ => ⟨[], [], [], [], [], []⟩
def bT.L1 (c : Ctx) (J1 : List AObj → Prop) (K : AOut → List AObj → Prop) (lv : List AV) (h0 : List AObj) (n0 : Nat) (c0 : AV) (c1 : AV) (c12 : AV) : Prop :=
 ∃ I : Nat → List AV → List AObj → Prop, (∃ n, I n lv h0) ∧ ∀ n h, ∀ t13, I n [t13] h →
 runD (binD aB .lss t13 c12) h fun t14 h =>
 bF t14
 (runD (aG aK h c0 t13) h fun t18 h =>
 runD (fitD aB (aD h t18)) h fun t19 h =>
 runD (aG aK h c1 t13) h fun t22 h =>
 runD (fitD aB (aD h t22)) h fun t23 h =>
 runD (binD aB .neq t19 t23) h fun t24 h =>
 bF t24
 (K (.ret (.bool false)) h)
 (runD (binD aB .add t13 (.int .i64 1)) h fun t25 h =>
 (∃ m, m < n ∧ I m (AV.norms n0 h [t25]) (cI n0 h)) ∧ AV.norms n0 h [c0, c1, c12] = [c0, c1, c12]))
 (J1 h)
def bT.H (c : Ctx) (t0 : AV) (t1 : AV) (h : List AObj) (K : AOut → List AObj → Prop) : Prop :=
 runD (lenD aK h t0) h fun t7 h =>
 runD (lenD aK h t1) h fun t9 h =>
 runD (binD aB .neq t7 t9) h fun t10 h =>
 bF t10
 (K (.ret (.bool false)) h)
 (runD (lenD aK h t0) h fun t12 h =>
 aL (fun (J1 : List AObj → Prop) =>
 dP [false] [(.int .i64 0)] h fun lv h => bT.L1 c J1 K (AV.norms h.length h lv) (cI h.length h) h.length (AV.norm h.length h t0) (AV.norm h.length h t1) (AV.norm h.length h t12))
 (fun h => K (.ret (.bool true)) h))
def bY.loops : Nat → bV
 | _ => ⟨[], [], [], [], [], []⟩
def bY.H (c : Ctx) (t0 : AV) (t1 : AV) (h : List AObj) (K : AOut → List AObj → Prop) : Prop :=
 aS false c (.fn (.func 104) [] []) [t0, t1] h (fun t7 h =>
 runD (binD aB .geq t7 (.int .i64 0)) h fun t8 h =>
 K (.ret t8) h)
 (fun v h => K (.pan v) h)
def aT.loops : Nat → bV
 | 2 => ⟨[8], [false], [0, 1, 7], [], [], []⟩
 | _ => ⟨[], [], [], [], [], []⟩
def aT.L1 (c : Ctx) (J1 : List AObj → Prop) (K : AOut → List AObj → Prop) (lv : List AV) (h0 : List AObj) (n0 : Nat) (c0 : AV) (c1 : AV) (c7 : AV) : Prop :=
 ∃ I : Nat → List AV → List AObj → Prop, (∃ n, I n lv h0) ∧ ∀ n h, ∀ t8, I n [t8] h →
 runD (binD aB .lss t8 c7) h fun t9 h =>
 bF t9
 (runD (aG aQ h c0 t8) h fun t14 h =>
 runD (fitD aJ (aD h t14)) h fun t15 h =>
 aS false c c1 [t15] h (fun t16 h =>
 bF t16
 (K (.ret t8) h)
 (runD (binD aB .add t8 (.int .i64 1)) h fun t18 h =>
 (∃ m, m < n ∧ I m (AV.norms n0 h [t18]) (cI n0 h)) ∧ AV.norms n0 h [c0, c1, c7] = [c0, c1, c7]))
 (fun v h => K (.pan v) h))
 (J1 h)
def aT.H (c : Ctx) (t0 : AV) (t1 : AV) (h : List AObj) (K : AOut → List AObj → Prop) : Prop :=
 runD (lenD aQ h t0) h fun t7 h =>
 aL (fun (J1 : List AObj → Prop) =>
 dP [false] [(.int .i64 0)] h fun lv h => aT.L1 c J1 K (AV.norms h.length h lv) (cI h.length h) h.length (AV.norm h.length h t0) (AV.norm h.length h t1) (AV.norm h.length h t7))
 (fun h => K (.ret (.int .i64 (-1))) h)
def bN.loops : Nat → bV
 | 4 => ⟨[3], [false], [0], [], [], []⟩
 | 9 => ⟨[3, 5], [false, false], [0, 4], [], [], []⟩
 | _ => ⟨[], [], [], [], [], []⟩
def bN.L2 (c : Ctx) (J3 : AV → AV → List AObj → Prop) (K : AOut → List AObj → Prop) (lv : List AV) (h0 : List AObj) (n0 : Nat) (c0 : AV) (c4 : AV) : Prop :=
 ∃ I : Nat → List AV → List AObj → Prop, (∃ n, I n lv h0) ∧ ∀ n h, ∀ t3, ∀ t5, I n [t3, t5] h →
 runD (lenD aK h c4) h fun t31 h =>
 runD (binD aB .lss t5 t31) h fun t32 h =>
 bF t32
 (runD (aG aK h c4 t5) h fun t37 h =>
 runD (fitD aB (aD h t37)) h fun t38 h =>
 runD (binD aB .sub t5 (.int .i64 1)) h fun t41 h =>
 runD (aG aK h c4 t41) h fun t42 h =>
 runD (fitD aB (aD h t42)) h fun t43 h =>
 runD (binD aB .neq t38 t43) h fun t44 h =>
 aL (fun (J4 : AV → List AObj → Prop) =>
 bF t44
 (runD (aG aK h c4 t5) h fun t49 h =>
 runD (fitD aB (aD h t49)) h fun t50 h =>
 runD (aG aK h c0 t3) h fun t51 h =>
 runH (aR aB h t51 t50) h fun _ h =>
 runD (binD aB .add t3 (.int .i64 1)) h fun t53 h =>
 J4 t53 h)
 (J4 t3 h))
 (fun t3 h => runD (binD aB .add t5 (.int .i64 1)) h fun t34 h =>
 (∃ m, m < n ∧ I m (AV.norms n0 h [t3, t34]) (cI n0 h)) ∧ AV.norms n0 h [c0, c4] = [c0, c4]))
 (J3 c0 t3 h)
def bN.L1 (c : Ctx) (J1 : AV → List AObj → Prop) (K : AOut → List AObj → Prop) (lv : List AV) (h0 : List AObj) (n0 : Nat) (c0 : AV) : Prop :=
 ∃ I : Nat → List AV → List AObj → Prop, (∃ n, I n lv h0) ∧ ∀ n h, ∀ t3, I n [t3] h →
 runD (lenD aK h c0) h fun t12 h =>
 runD (binD aB .lss t3 t12) h fun t13 h =>
 bF t13
 (aL (fun (J2 : AV → AV → List AObj → Prop) =>
 runD (aG aK h c0 t3) h fun t18 h =>
 runD (fitD aB (aD h t18)) h fun t19 h =>
 runD (binD aB .sub t3 (.int .i64 1)) h fun t22 h =>
 runD (aG aK h c0 t22) h fun t23 h =>
 runD (fitD aB (aD h t23)) h fun t24 h =>
 runD (binD aB .eql t19 t24) h fun t25 h =>
 bF t25
 (runD (eH aK h c0 (some t3) none none) h fun t28 h =>
 aL (fun (J3 : AV → AV → List AObj → Prop) =>
 dP [false, false] [t3, (.int .i64 1)] h fun lv h => bN.L2 c J3 K (AV.norms h.length h lv) (cI h.length h) h.length (AV.norm h.length h c0) (AV.norm h.length h t28))
 (fun t0 t3 h => runD (eH aK h t0 (some t3) none none) h fun t56 h =>
 runM (nQ aK h t56) h fun _ h =>
 runD (eH aK h t0 none (some t3) none) h fun t59 h =>
 K (.ret t59) h))
 (J2 c0 t3 h))
 (fun t0 t3 h => runD (binD aB .add t3 (.int .i64 1)) h fun t15 h =>
 (∃ m, m < n ∧ I m (AV.norms n0 h [t15]) (cI n0 h)) ∧ AV.norms n0 h [t0] = [c0]))
 (J1 c0 h)
def bN.H (c : Ctx) (t0 : AV) (h : List AObj) (K : AOut → List AObj → Prop) : Prop :=
 runD (lenD aK h t0) h fun t7 h =>
 runD (binD aB .lss t7 (.int .i64 2)) h fun t8 h =>
 bF t8
 (K (.ret t0) h)
 (aL (fun (J1 : AV → List AObj → Prop) =>
 dP [false] [(.int .i64 1)] h fun lv h => bN.L1 c J1 K (AV.norms h.length h lv) (cI h.length h) h.length (AV.norm h.length h t0))
 (fun t0 h => K (.ret t0) h))
def bM.loops : Nat → bV
 | 2 => ⟨[8], [false], [0, 1, 7], [], [], []⟩
 | _ => ⟨[], [], [], [], [], []⟩
def bM.L1 (c : Ctx) (J1 : List AObj → Prop) (K : AOut → List AObj → Prop) (lv : List AV) (h0 : List AObj) (n0 : Nat) (c0 : AV) (c1 : AV) (c7 : AV) : Prop :=
 ∃ I : Nat → List AV → List AObj → Prop, (∃ n, I n lv h0) ∧ ∀ n h, ∀ t8, I n [t8] h →
 runD (binD aB .lss t8 c7) h fun t9 h =>
 bF t9
 (runD (aG aK h c0 t8) h fun t14 h =>
 runD (fitD aB (aD h t14)) h fun t15 h =>
 aS false c c1 [t15] h (fun t16 h =>
 bF t16
 (K (.ret t8) h)
 (runD (binD aB .add t8 (.int .i64 1)) h fun t18 h =>
 (∃ m, m < n ∧ I m (AV.norms n0 h [t18]) (cI n0 h)) ∧ AV.norms n0 h [c0, c1, c7] = [c0, c1, c7]))
 (fun v h => K (.pan v) h))
 (J1 h)
def bM.H (c : Ctx) (t0 : AV) (t1 : AV) (h : List AObj) (K : AOut → List AObj → Prop) : Prop :=
 runD (lenD aK h t0) h fun t7 h =>
 aL (fun (J1 : List AObj → Prop) =>
 dP [false] [(.int .i64 0)] h fun lv h => bM.L1 c J1 K (AV.norms h.length h lv) (cI h.length h) h.length (AV.norm h.length h t0) (AV.norm h.length h t1) (AV.norm h.length h t7))
 (fun h => K (.ret (.int .i64 (-1))) h)
def bZ.loops : Nat → bV
 | 2 => ⟨[8], [false], [0, 1, 7], [], [], []⟩
 | _ => ⟨[], [], [], [], [], []⟩
def bZ.L1 (c : Ctx) (J1 : List AObj → Prop) (K : AOut → List AObj → Prop) (lv : List AV) (h0 : List AObj) (n0 : Nat) (c0 : AV) (c1 : AV) (c7 : AV) : Prop :=
 ∃ I : Nat → List AV → List AObj → Prop, (∃ n, I n lv h0) ∧ ∀ n h, ∀ t8, I n [t8] h →
 runD (binD aB .lss t8 c7) h fun t9 h =>
 bF t9
 (runD (aG aK h c0 t8) h fun t14 h =>
 runD (fitD aB (aD h t14)) h fun t15 h =>
 runD (binD aB .eql c1 t15) h fun t16 h =>
 bF t16
 (K (.ret t8) h)
 (runD (binD aB .add t8 (.int .i64 1)) h fun t18 h =>
 (∃ m, m < n ∧ I m (AV.norms n0 h [t18]) (cI n0 h)) ∧ AV.norms n0 h [c0, c1, c7] = [c0, c1, c7]))
 (J1 h)
def bZ.H (c : Ctx) (t0 : AV) (t1 : AV) (h : List AObj) (K : AOut → List AObj → Prop) : Prop :=
 runD (lenD aK h t0) h fun t7 h =>
 aL (fun (J1 : List AObj → Prop) =>
 dP [false] [(.int .i64 0)] h fun lv h => bZ.L1 c J1 K (AV.norms h.length h lv) (cI h.length h) h.length (AV.norm h.length h t0) (AV.norm h.length h t1) (AV.norm h.length h t7))
 (fun h => K (.ret (.int .i64 (-1))) h)
def bU.loops : Nat → bV
 | _ => ⟨[], [], [], [], [], []⟩
def bU.H (c : Ctx) (t0 : AV) (t1 : AV) (h : List AObj) (K : AOut → List AObj → Prop) : Prop :=
 aS false c (.fn (.func 102) [] []) [t0, t1] h (fun t7 h =>
 runD (binD aB .geq t7 (.int .i64 0)) h fun t8 h =>
 K (.ret t8) h)
 (fun v h => K (.pan v) h)
def aP.loops : Nat → bV
 | _ => ⟨[], [], [], [], [], []⟩
def aP.H (c : Ctx) (t0 : AV) (t1 : AV) (h : List AObj) (K : AOut → List AObj → Prop) : Prop :=
 aS false c (.fn (.func 147) [] []) [t0, t1] h (fun t7 h =>
 runD (binD aB .geq t7 (.int .i64 0)) h fun t8 h =>
 K (.ret t8) h)
 (fun v h => K (.pan v) h)
def aN.loops : Nat → bV
 | 2 => ⟨[8], [false], [0, 1, 7], [], [], []⟩
 | _ => ⟨[], [], [], [], [], []⟩
def aN.L1 (c : Ctx) (J1 : List AObj → Prop) (K : AOut → List AObj → Prop) (lv : List AV) (h0 : List AObj) (n0 : Nat) (c0 : AV) (c1 : AV) (c7 : AV) : Prop :=
 ∃ I : Nat → List AV → List AObj → Prop, (∃ n, I n lv h0) ∧ ∀ n h, ∀ t8, I n [t8] h →
 runD (binD aB .lss t8 c7) h fun t9 h =>
 bF t9
 (runD (aG jX h c0 t8) h fun t14 h =>
 runD (fitD fR (aD h t14)) h fun t15 h =>
 aS false c c1 [t15] h (fun t16 h =>
 bF t16
 (K (.ret t8) h)
 (runD (binD aB .add t8 (.int .i64 1)) h fun t18 h =>
 (∃ m, m < n ∧ I m (AV.norms n0 h [t18]) (cI n0 h)) ∧ AV.norms n0 h [c0, c1, c7] = [c0, c1, c7]))
 (fun v h => K (.pan v) h))
 (J1 h)
def aN.H (c : Ctx) (t0 : AV) (t1 : AV) (h : List AObj) (K : AOut → List AObj → Prop) : Prop :=
 runD (lenD jX h t0) h fun t7 h =>
 aL (fun (J1 : List AObj → Prop) =>
 dP [false] [(.int .i64 0)] h fun lv h => aN.L1 c J1 K (AV.norms h.length h lv) (cI h.length h) h.length (AV.norm h.length h t0) (AV.norm h.length h t1) (AV.norm h.length h t7))
 (fun h => K (.ret (.int .i64 (-1))) h)
def bI.loops : Nat → bV
 | _ => ⟨[], [], [], [], [], []⟩
def bI.H (c : Ctx) (t0 : AV) (h : List AObj) (K : AOut → List AObj → Prop) : Prop :=
 runD (lenD cD h t0) h fun t5 h =>
 runD (lenD cD h t0) h fun t7 h =>
 runD (eH cD h t0 none (some t5) (some t7)) h fun t8 h =>
 K (.ret t8) h
def bH.loops : Nat → bV
 | _ => ⟨[], [], [], [], [], []⟩
def bH.H (c : Ctx) (t0 : AV) (h : List AObj) (K : AOut → List AObj → Prop) : Prop :=
 sU (AV.len cD h t0) h fun t4 h =>
 bF t4
 (K (.ret (.sl true (.pends []))) h)
 (runD (gA cD 0 [] h.length) h fun t5 h =>
 jZ (gP cD h t5 t0 h.length) (hX cD h t5 t0) h fun t7 h =>
 K (.ret t7) h)
theorem aX.eq (F : List (FuncId × aE)) (S : List (FuncId × Con)) (t0 : AV) (h : List AObj) (K : AOut → List AObj → Prop) : funW (ctx F S aX.loops) Tryz.f34 [t0] h K = aX.H (ctx F S aX.loops) t0 h K := by kernel_rfl
theorem bT.eq (F : List (FuncId × aE)) (S : List (FuncId × Con)) (t0 t1 : AV) (h : List AObj) (K : AOut → List AObj → Prop) : funW (ctx F S bT.loops) Tryz.f35 [t0, t1] h K = bT.H (ctx F S bT.loops) t0 t1 h K := by kernel_rfl
theorem bY.eq (F : List (FuncId × aE)) (S : List (FuncId × Con)) (t0 t1 : AV) (h : List AObj) (K : AOut → List AObj → Prop) : funW (ctx F S bY.loops) Tryz.f83 [t0, t1] h K = bY.H (ctx F S bY.loops) t0 t1 h K := by kernel_rfl
theorem aT.eq (F : List (FuncId × aE)) (S : List (FuncId × Con)) (t0 t1 : AV) (h : List AObj) (K : AOut → List AObj → Prop) : funW (ctx F S aT.loops) Tryz.f90 [t0, t1] h K = aT.H (ctx F S aT.loops) t0 t1 h K := by kernel_rfl
theorem bN.eq (F : List (FuncId × aE)) (S : List (FuncId × Con)) (t0 : AV) (h : List AObj) (K : AOut → List AObj → Prop) : funW (ctx F S bN.loops) Tryz.f98 [t0] h K = bN.H (ctx F S bN.loops) t0 h K := by kernel_rfl
theorem bM.eq (F : List (FuncId × aE)) (S : List (FuncId × Con)) (t0 t1 : AV) (h : List AObj) (K : AOut → List AObj → Prop) : funW (ctx F S bM.loops) Tryz.f102 [t0, t1] h K = bM.H (ctx F S bM.loops) t0 t1 h K := by kernel_rfl
theorem bZ.eq (F : List (FuncId × aE)) (S : List (FuncId × Con)) (t0 t1 : AV) (h : List AObj) (K : AOut → List AObj → Prop) : funW (ctx F S bZ.loops) Tryz.f104 [t0, t1] h K = bZ.H (ctx F S bZ.loops) t0 t1 h K := by kernel_rfl
theorem bU.eq (F : List (FuncId × aE)) (S : List (FuncId × Con)) (t0 t1 : AV) (h : List AObj) (K : AOut → List AObj → Prop) : funW (ctx F S bU.loops) Tryz.f106 [t0, t1] h K = bU.H (ctx F S bU.loops) t0 t1 h K := by kernel_rfl
theorem aP.eq (F : List (FuncId × aE)) (S : List (FuncId × Con)) (t0 t1 : AV) (h : List AObj) (K : AOut → List AObj → Prop) : funW (ctx F S aP.loops) Tryz.f136 [t0, t1] h K = aP.H (ctx F S aP.loops) t0 t1 h K := by kernel_rfl
theorem aN.eq (F : List (FuncId × aE)) (S : List (FuncId × Con)) (t0 t1 : AV) (h : List AObj) (K : AOut → List AObj → Prop) : funW (ctx F S aN.loops) Tryz.f147 [t0, t1] h K = aN.H (ctx F S aN.loops) t0 t1 h K := by kernel_rfl
theorem bI.eq (F : List (FuncId × aE)) (S : List (FuncId × Con)) (t0 : AV) (h : List AObj) (K : AOut → List AObj → Prop) : funW (ctx F S bI.loops) Tryz.f153 [t0] h K = bI.H (ctx F S bI.loops) t0 h K := by kernel_rfl
theorem bH.eq (F : List (FuncId × aE)) (S : List (FuncId × Con)) (t0 : AV) (h : List AObj) (K : AOut → List AObj → Prop) : funW (ctx F S bH.loops) Tryz.f155 [t0] h K = bH.H (ctx F S bH.loops) t0 h K := by kernel_rfl
theorem aX.at : Tryz.prog.funcs[34]? = some Tryz.f34 := by kernel_rfl
theorem aX.nm : (Tryz.f34.name == "runtime.NumGoroutine") = false := by kernel_rfl
theorem aX.bd : Tryz.f34.body.isNone = false := by kernel_rfl
theorem bT.at : Tryz.prog.funcs[35]? = some Tryz.f35 := by kernel_rfl
theorem bT.nm : (Tryz.f35.name == "runtime.NumGoroutine") = false := by kernel_rfl
theorem bT.bd : Tryz.f35.body.isNone = false := by kernel_rfl
theorem bY.at : Tryz.prog.funcs[83]? = some Tryz.f83 := by kernel_rfl
theorem bY.nm : (Tryz.f83.name == "runtime.NumGoroutine") = false := by kernel_rfl
theorem bY.bd : Tryz.f83.body.isNone = false := by kernel_rfl
theorem aT.at : Tryz.prog.funcs[90]? = some Tryz.f90 := by kernel_rfl
theorem aT.nm : (Tryz.f90.name == "runtime.NumGoroutine") = false := by kernel_rfl
theorem aT.bd : Tryz.f90.body.isNone = false := by kernel_rfl
theorem bN.at : Tryz.prog.funcs[98]? = some Tryz.f98 := by kernel_rfl
theorem bN.nm : (Tryz.f98.name == "runtime.NumGoroutine") = false := by kernel_rfl
theorem bN.bd : Tryz.f98.body.isNone = false := by kernel_rfl
theorem bM.at : Tryz.prog.funcs[102]? = some Tryz.f102 := by kernel_rfl
theorem bM.nm : (Tryz.f102.name == "runtime.NumGoroutine") = false := by kernel_rfl
theorem bM.bd : Tryz.f102.body.isNone = false := by kernel_rfl
theorem bZ.at : Tryz.prog.funcs[104]? = some Tryz.f104 := by kernel_rfl
theorem bZ.nm : (Tryz.f104.name == "runtime.NumGoroutine") = false := by kernel_rfl
theorem bZ.bd : Tryz.f104.body.isNone = false := by kernel_rfl
theorem bU.at : Tryz.prog.funcs[106]? = some Tryz.f106 := by kernel_rfl
theorem bU.nm : (Tryz.f106.name == "runtime.NumGoroutine") = false := by kernel_rfl
theorem bU.bd : Tryz.f106.body.isNone = false := by kernel_rfl
theorem aP.at : Tryz.prog.funcs[136]? = some Tryz.f136 := by kernel_rfl
theorem aP.nm : (Tryz.f136.name == "runtime.NumGoroutine") = false := by kernel_rfl
theorem aP.bd : Tryz.f136.body.isNone = false := by kernel_rfl
theorem aN.at : Tryz.prog.funcs[147]? = some Tryz.f147 := by kernel_rfl
theorem aN.nm : (Tryz.f147.name == "runtime.NumGoroutine") = false := by kernel_rfl
theorem aN.bd : Tryz.f147.body.isNone = false := by kernel_rfl
theorem bI.at : Tryz.prog.funcs[153]? = some Tryz.f153 := by kernel_rfl
theorem bI.nm : (Tryz.f153.name == "runtime.NumGoroutine") = false := by kernel_rfl
theorem bI.bd : Tryz.f153.body.isNone = false := by kernel_rfl
theorem bH.at : Tryz.prog.funcs[155]? = some Tryz.f155 := by kernel_rfl
theorem bH.nm : (Tryz.f155.name == "runtime.NumGoroutine") = false := by kernel_rfl
theorem bH.bd : Tryz.f155.body.isNone = false := by kernel_rfl
end Lam
namespace Lam
open Go Go.Proofs
def gH.loops : Nat → bV
 | 1 => ⟨[], [], [], [(4, none), (2, some [8, 10]), (2, none), (2, some [12, 14])], [], []⟩
 | _ => ⟨[], [], [], [], [], []⟩
def gH.H (c : Ctx) (t0 : AV) (t1 : AV) (h : List AObj) (K : AOut → List AObj → Prop) : Prop :=
 aS false c (.fn (.func 94) [] []) [t0] h (fun t6 h =>
 runD (unD .not t6) h fun t7 h =>
 aL (fun (J1 : AV → AV → List AObj → Prop) =>
 bC t7 false
 (runD (binD aB .lss t1 (.int .i64 0)) h fun t10 h =>
 J1 (.bool false) t10 h)
 (J1 (.bool true) .und h))
 (fun t8 t10 h => runD (bS t8 (.bool true) t10) h fun t11 h =>
 aL (fun (J2 : AV → AV → List AObj → Prop) =>
 bC t11 false
 (runD (binD aB .geq t1 (.int .i64 13)) h fun t14 h =>
 J2 (.bool false) t14 h)
 (J2 (.bool true) .und h))
 (fun t12 t14 h => runD (bS t12 (.bool true) t14) h fun t15 h =>
 bF t15
 (K (.ret (.int .i64 (-1))) h)
 (runD (binD aB .add t0 (.int .i64 3)) h fun t17 h =>
 runD (binD aB .add t17 t1) h fun t19 h =>
 K (.ret t19) h))))
 (fun v h => K (.pan v) h)
def fH.loops : Nat → bV
 | _ => ⟨[], [], [], [], [], []⟩
def fH.H (c : Ctx) (t0 : AV) (h : List AObj) (K : AOut → List AObj → Prop) : Prop :=
 aS false c (.fn (.func 34) [] []) [t0] h (fun t4 h =>
 aS false c (.fn (.func 98) [] []) [t4] h (fun t5 h =>
 K (.ret t5) h)
 (fun v h => K (.pan v) h))
 (fun v h => K (.pan v) h)
def gI.loops : Nat → bV
 | 1 => ⟨[], [], [], [(4, none), (5, some [10, 15])], [], []⟩
 | _ => ⟨[], [], [], [], [], []⟩
def gI.H (c : Ctx) (t0 : AV) (t1 : AV) (h : List AObj) (K : AOut → List AObj → Prop) : Prop :=
 aS false c (.fn (.func 94) [] []) [t1] h (fun t8 h =>
 runD (unD .not t8) h fun t9 h =>
 aL (fun (J1 : AV → AV → List AObj → Prop) =>
 bC t9 false
 (runD (binD aB .add t1 (.int .i64 16)) h fun t12 h =>
 runD (lenD aK h t0) h fun t14 h =>
 runD (binD aB .gtr t12 t14) h fun t15 h =>
 J1 (.bool false) t15 h)
 (J1 (.bool true) .und h))
 (fun t10 t15 h => runD (bS t10 (.bool true) t15) h fun t16 h =>
 bF t16
 (K (.ret (.sl true (.ints .i64 []))) h)
 (runD (binD aB .add t1 (.int .i64 3)) h fun t19 h =>
 runD (binD aB .add t1 (.int .i64 16)) h fun t21 h =>
 runD (binD aB .add t1 (.int .i64 16)) h fun t23 h =>
 runD (eH aK h t0 (some t19) (some t21) (some t23)) h fun t24 h =>
 aS false c (.fn (.func 102) [] []) [t24, (.fn (.func 103) [] [])] h (fun t26 h =>
 runD (binD aB .lss t26 (.int .i64 0)) h fun t28 h =>
 aL (fun (J2 : AV → List AObj → Prop) =>
 bF t28
 (runD (lenD aK h t24) h fun t30 h =>
 J2 t30 h)
 (J2 t26 h))
 (fun t6 h => runD (eH aK h t24 none (some t6) none) h fun t33 h =>
 aS false c (.fn (.func 34) [] []) [t33] h (fun t34 h =>
 K (.ret t34) h)
 (fun v h => K (.pan v) h)))
 (fun v h => K (.pan v) h))))
 (fun v h => K (.pan v) h)
def gE.loops : Nat → bV
 | 1 => ⟨[], [], [], [(3, none), (3, some [5, 8]), (2, none), (3, some [10, 13])], [], []⟩
 | _ => ⟨[], [], [], [], [], []⟩
def gE.H (c : Ctx) (t0 : AV) (h : List AObj) (K : AOut → List AObj → Prop) : Prop :=
 runD (binD aB .geq t0 (.int .i64 0)) h fun t4 h =>
 aL (fun (J1 : AV → AV → List AObj → Prop) =>
 bC t4 true
 (runD (binD aB .add t0 (.int .i64 16)) h fun t7 h =>
 runD (binD aB .leq t7 (.int .i64 4096)) h fun t8 h =>
 J1 (.bool true) t8 h)
 (J1 (.bool false) .und h))
 (fun t5 t8 h => runD (bS t5 t8 (.bool false)) h fun t9 h =>
 aL (fun (J2 : AV → AV → List AObj → Prop) =>
 bC t9 true
 (runD (binD aB .rem t0 (.int .i64 16)) h fun t12 h =>
 runD (binD aB .eql t12 (.int .i64 0)) h fun t13 h =>
 J2 (.bool true) t13 h)
 (J2 (.bool false) .und h))
 (fun t10 t13 h => runD (bS t10 t13 (.bool false)) h fun t14 h =>
 K (.ret t14) h))
def fD.loops : Nat → bV
 | _ => ⟨[], [], [], [], [], []⟩
def fD.H (c : Ctx) (t0 : AV) (h : List AObj) (K : AOut → List AObj → Prop) : Prop :=
 runD (binD aB .lss t0 (.int .i64 1)) h fun t4 h =>
 K (.ret t4) h
theorem gH.eq (F : List (FuncId × aE)) (S : List (FuncId × Con)) (t0 t1 : AV) (h : List AObj) (K : AOut → List AObj → Prop) : funW (ctx F S gH.loops) Tryz.f68 [t0, t1] h K = gH.H (ctx F S gH.loops) t0 t1 h K := by kernel_rfl
theorem fH.eq (F : List (FuncId × aE)) (S : List (FuncId × Con)) (t0 : AV) (h : List AObj) (K : AOut → List AObj → Prop) : funW (ctx F S fH.loops) Tryz.f78 [t0] h K = fH.H (ctx F S fH.loops) t0 h K := by kernel_rfl
theorem gI.eq (F : List (FuncId × aE)) (S : List (FuncId × Con)) (t0 t1 : AV) (h : List AObj) (K : AOut → List AObj → Prop) : funW (ctx F S gI.loops) Tryz.f80 [t0, t1] h K = gI.H (ctx F S gI.loops) t0 t1 h K := by kernel_rfl
theorem gE.eq (F : List (FuncId × aE)) (S : List (FuncId × Con)) (t0 : AV) (h : List AObj) (K : AOut → List AObj → Prop) : funW (ctx F S gE.loops) Tryz.f94 [t0] h K = gE.H (ctx F S gE.loops) t0 h K := by kernel_rfl
theorem fD.eq (F : List (FuncId × aE)) (S : List (FuncId × Con)) (t0 : AV) (h : List AObj) (K : AOut → List AObj → Prop) : funW (ctx F S fD.loops) Tryz.f103 [t0] h K = fD.H (ctx F S fD.loops) t0 h K := by kernel_rfl
theorem gH.at : Tryz.prog.funcs[68]? = some Tryz.f68 := by kernel_rfl
theorem gH.nm : (Tryz.f68.name == "runtime.NumGoroutine") = false := by kernel_rfl
theorem gH.bd : Tryz.f68.body.isNone = false := by kernel_rfl
theorem fH.at : Tryz.prog.funcs[78]? = some Tryz.f78 := by kernel_rfl
theorem fH.nm : (Tryz.f78.name == "runtime.NumGoroutine") = false := by kernel_rfl
theorem fH.bd : Tryz.f78.body.isNone = false := by kernel_rfl
theorem gI.at : Tryz.prog.funcs[80]? = some Tryz.f80 := by kernel_rfl
theorem gI.nm : (Tryz.f80.name == "runtime.NumGoroutine") = false := by kernel_rfl
theorem gI.bd : Tryz.f80.body.isNone = false := by kernel_rfl
theorem gE.at : Tryz.prog.funcs[94]? = some Tryz.f94 := by kernel_rfl
theorem gE.nm : (Tryz.f94.name == "runtime.NumGoroutine") = false := by kernel_rfl
theorem gE.bd : Tryz.f94.body.isNone = false := by kernel_rfl
theorem fD.at : Tryz.prog.funcs[103]? = some Tryz.f103 := by kernel_rfl
theorem fD.nm : (Tryz.f103.name == "runtime.NumGoroutine") = false := by kernel_rfl
theorem fD.bd : Tryz.f103.body.isNone = false := by kernel_rfl
end Lam
namespace Lam
open Go Go.Proofs
def cK.loops : Nat → bV
 | 1 => ⟨[], [], [], [(3, none), (5, some [12, 17])], [], []⟩
 | 6 => ⟨[], [], [], [(3, none), (4, some [52, 56])], [], []⟩
 | _ => ⟨[], [], [], [], [], []⟩
def cK.H (c : Ctx) (t0 : AV) (t1 : AV) (h : List AObj) (K : AOut → List AObj → Prop) : Prop :=
 cT bD h fun t4 h =>
 runD (binD aB .lss t1 (.int .i64 0)) h fun t11 h =>
 aL (fun (J1 : AV → AV → List AObj → Prop) =>
 bC t11 false
 (runD (lenD aK h t0) h fun t15 h =>
 runD (binD aB .quo t15 (.int .i64 16)) h fun t16 h =>
 runD (binD aB .geq t1 t16) h fun t17 h =>
 J1 (.bool false) t17 h)
 (J1 (.bool true) .und h))
 (fun t12 t17 h => runD (bS t12 (.bool true) t17) h fun t18 h =>
 bF t18
 (runD (gY bD []) h fun t19 h =>
 runH (aR bD h t4 t19) h fun _ h =>
 cZ (fitD bD (aD h t4)) fun r0 => K (.ret (.tup [r0, (.int .i64 1)])) h)
 (runD (binD aB .mul (.int .i64 16) t1) h fun t22 h =>
 runD (binD aB .add t1 (.int .i64 1)) h fun t24 h =>
 runD (binD aB .mul (.int .i64 16) t24) h fun t25 h =>
 runD (eH aK h t0 (some t22) (some t25) none) h fun t26 h =>
 runD (aG aK h t26 (.int .i64 0)) h fun t28 h =>
 runD (fitD aB (aD h t28)) h fun t29 h =>
 runD (binD aB .and t29 (.int .i64 15)) h fun t30 h =>
 runD (aG aK h t26 (.int .i64 0)) h fun t32 h =>
 runD (fitD aB (aD h t32)) h fun t33 h =>
 runD (binD aB .andNot t33 (.int .i64 1152921504606846976)) h fun t34 h =>
 runD (binD aB .shr t34 (.int .u64 4)) h fun t35 h =>
 runD (aG aK h t26 (.int .i64 1)) h fun t37 h =>
 runD (fitD aB (aD h t37)) h fun t38 h =>
 runD (aG aK h t26 (.int .i64 2)) h fun t40 h =>
 runD (fitD aB (aD h t40)) h fun t41 h =>
 aS false c.noS (.fn (.func 80) [] []) [t26, (.int .i64 0)] h (fun t43 h =>
 runD (gY bD [(0, t30), (1, t35), (2, t38), (3, t41), (4, t43)]) h fun t44 h =>
 cT bD h fun t7 h =>
 runH (aR bD h t7 t44) h fun _ h =>
 runD (fitD bD (aD h t7)) h fun t46 h =>
 aS false c (.fn (.func 57) [] []) [t46] h (fun t47 h =>
 runD (bE t47 0) h fun t48 h =>
 runD (bE t47 1) h fun t49 h =>
 runD (binD cM .neq t49 (.int .i64 0)) h fun t51 h =>
 aL (fun (J2 : AV → AV → List AObj → Prop) =>
 bC t51 false
 (aS false c (.fn (.func 35) [] []) [t48, t26] h (fun t55 h =>
 runD (unD .not t55) h fun t56 h =>
 J2 (.bool false) t56 h)
 (fun v h => K (.pan v) h))
 (J2 (.bool true) .und h))
 (fun t52 t56 h => runD (bS t52 (.bool true) t56) h fun t57 h =>
 bF t57
 (runD (gY bD []) h fun t58 h =>
 runH (aR bD h t4 t58) h fun _ h =>
 cZ (fitD bD (aD h t4)) fun r0 => K (.ret (.tup [r0, (.int .i64 90)])) h)
 (runD (fitD bD (aD h t7)) h fun t59 h =>
 runH (aR bD h t4 t59) h fun _ h =>
 cZ (fitD bD (aD h t4)) fun r0 => K (.ret (.tup [r0, (.int .i64 0)])) h)))
 (fun v h => K (.pan v) h))
 (fun _ _ => False)))
def fI.loops : Nat → bV
 | _ => ⟨[], [], [], [], [], []⟩
def fI.H (c : Ctx) (t0 : AV) (h : List AObj) (K : AOut → List AObj → Prop) : Prop :=
 boxW bD t0 h fun t1 h =>
 runD (fitD bD (aD h t1)) h fun t5 h =>
 aS false c (.fn (.func 86) [] []) [t5] h (fun t6 h =>
 runD (unD .not t6) h fun t7 h =>
 bF t7
 (K (.ret (.tup [(.sl true (.ints .i64 [])), (.int .i64 90)])) h)
 (runD (jY aK (.int .i64 16) (.int .i64 16) h.length) h fun t8 h =>
 runD (fitD bD (aD h t1)) h fun t12 h =>
 aS false c.noS (.fn (.func 87) [] []) [t12] h (fun t13 h =>
 runD (aC bD t1 2) h fun t14 h =>
 runD (fitD aB (aD h t14)) h fun t15 h =>
 runD (aC bD t1 3) h fun t16 h =>
 runD (fitD aB (aD h t16)) h fun t17 h =>
 runD (aG aK h t8 (.int .i64 0)) h fun t18 h =>
 runH (aR aB h t18 t13) h fun _ h =>
 runD (aG aK h t8 (.int .i64 1)) h fun t19 h =>
 runH (aR aB h t19 t15) h fun _ h =>
 runD (aG aK h t8 (.int .i64 2)) h fun t20 h =>
 runH (aR aB h t20 t17) h fun _ h =>
 sepB t18 [t14] = true ∧ sepB t18 [t16] = true ∧ sepB t19 [t16] = true ∧ runD (eH aK h t8 (some (.int .i64 3)) none none) h fun t22 h =>
 runD (aC bD t1 4) h fun t23 h =>
 runD (fitD aK (aD h t23)) h fun t24 h =>
 runM (lX aK h t22 t24) h fun t25 h =>
 K (.ret (.tup [t8, (.int .i64 0)])) h)
 (fun _ _ => False)))
 (fun v h => K (.pan v) h)
def gJ.loops : Nat → bV
 | 10 => ⟨[], [], [], [(2, none), (4, some [32, 36])], [], []⟩
 | _ => ⟨[], [], [], [], [], []⟩
def gJ.H (c : Ctx) (t0 : AV) (h : List AObj) (K : AOut → List AObj → Prop) : Prop :=
 boxW bD t0 h fun t1 h =>
 aL (fun (J1 : AV → List AObj → Prop) =>
 aL (fun (J2 : List AObj → Prop) =>
 aL (fun (J3 : List AObj → Prop) =>
 runD (aC bD t1 0) h fun t5 h =>
 runD (fitD aB (aD h t5)) h fun t6 h =>
 runD (binD aB .lss t6 (.int .i64 0)) h fun t7 h =>
 aL (fun (J4 : AV → List AObj → Prop) =>
 bF t7
 (J4 t7 h)
 (runD (aC bD t1 0) h fun t8 h =>
 runD (fitD aB (aD h t8)) h fun t9 h =>
 runD (binD aB .gtr t9 (.int .i64 9)) h fun t10 h =>
 J4 t10 h))
 (fun t4 h => bF t4
 (J3 h)
 (runD (aC bD t1 1) h fun t12 h =>
 runD (fitD aB (aD h t12)) h fun t13 h =>
 runD (binD aB .lss t13 (.int .i64 0)) h fun t14 h =>
 aL (fun (J5 : AV → List AObj → Prop) =>
 bF t14
 (J5 t14 h)
 (runD (aC bD t1 1) h fun t15 h =>
 runD (fitD aB (aD h t15)) h fun t16 h =>
 runD (binD aB .gtr t16 (.int .i64 1099511627776)) h fun t17 h =>
 J5 t17 h))
 (fun t11 h => bF t11
 (J3 h)
 (runD (aC bD t1 2) h fun t19 h =>
 runD (fitD aB (aD h t19)) h fun t20 h =>
 aS false c (.fn (.func 105) [] []) [t20] h (fun t21 h =>
 runD (unD .not t21) h fun t22 h =>
 aL (fun (J6 : AV → List AObj → Prop) =>
 bF t22
 (J6 t22 h)
 (runD (aC bD t1 3) h fun t23 h =>
 runD (fitD aB (aD h t23)) h fun t24 h =>
 aS false c (.fn (.func 105) [] []) [t24] h (fun t25 h =>
 runD (unD .not t25) h fun t26 h =>
 aL (fun (J7 : AV → List AObj → Prop) =>
 bF t26
 (J7 t26 h)
 (runD (aC bD t1 4) h fun t27 h =>
 runD (fitD aK (aD h t27)) h fun t28 h =>
 runD (lenD aK h t28) h fun t29 h =>
 runD (binD aB .gtr t29 (.int .i64 13)) h fun t30 h =>
 J7 t30 h))
 (fun t18 h => J6 t18 h))
 (fun v h => K (.pan v) h)))
 (fun t18 h => bF t18
 (J2 h)
 (J1 (.bool true) h)))
 (fun v h => K (.pan v) h))))))
 (fun h => J2 h))
 (fun h => J1 (.bool false) h))
 (fun t3 h => aL (fun (J8 : AV → AV → List AObj → Prop) =>
 bC t3 true
 (runD (aC bD t1 4) h fun t33 h =>
 runD (fitD aK (aD h t33)) h fun t34 h =>
 aS false c (.fn (.func 106) [] []) [t34, (.fn (.func 107) [] [])] h (fun t35 h =>
 runD (unD .not t35) h fun t36 h =>
 J8 (.bool true) t36 h)
 (fun v h => K (.pan v) h))
 (J8 (.bool false) .und h))
 (fun t32 t36 h => runD (bS t32 t36 (.bool false)) h fun t37 h =>
 K (.ret t37) h))
def gK.loops : Nat → bV
 | _ => ⟨[], [], [], [], [], []⟩
def gK.H (c : Ctx) (t0 : AV) (h : List AObj) (K : AOut → List AObj → Prop) : Prop :=
 boxW bD t0 h fun t1 h =>
 runD (aC bD t1 1) h fun t3 h =>
 runD (fitD aB (aD h t3)) h fun t4 h =>
 runD (binD aB .shl t4 (.int .u64 4)) h fun t5 h =>
 runD (binD aB .or (.int .i64 1152921504606846976) t5) h fun t6 h =>
 runD (aC bD t1 0) h fun t7 h =>
 runD (fitD aB (aD h t7)) h fun t8 h =>
 runD (binD aB .or t6 t8) h fun t9 h =>
 K (.ret t9) h
def eX.loops : Nat → bV
 | 1 => ⟨[], [], [], [(3, none), (2, some [5, 7])], [], []⟩
 | _ => ⟨[], [], [], [], [], []⟩
def eX.H (c : Ctx) (t0 : AV) (h : List AObj) (K : AOut → List AObj → Prop) : Prop :=
 runD (binD aB .geq t0 (.int .i64 0)) h fun t4 h =>
 aL (fun (J1 : AV → AV → List AObj → Prop) =>
 bC t4 true
 (runD (binD aB .lss t0 (.int .i64 256)) h fun t7 h =>
 J1 (.bool true) t7 h)
 (J1 (.bool false) .und h))
 (fun t5 t7 h => runD (bS t5 t7 (.bool false)) h fun t8 h =>
 K (.ret t8) h)
def fE.loops : Nat → bV
 | 1 => ⟨[], [], [], [(3, none), (3, some [5, 8])], [], []⟩
 | _ => ⟨[], [], [], [], [], []⟩
def fE.H (c : Ctx) (t0 : AV) (h : List AObj) (K : AOut → List AObj → Prop) : Prop :=
 runD (binD aB .eql t0 (.int .i64 0)) h fun t4 h =>
 aL (fun (J1 : AV → AV → List AObj → Prop) =>
 bC t4 false
 (aS false c (.fn (.func 105) [] []) [t0] h (fun t7 h =>
 runD (unD .not t7) h fun t8 h =>
 J1 (.bool false) t8 h)
 (fun v h => K (.pan v) h))
 (J1 (.bool true) .und h))
 (fun t5 t8 h => runD (bS t5 (.bool true) t8) h fun t9 h =>
 K (.ret t9) h)
theorem cK.eq (F : List (FuncId × aE)) (S : List (FuncId × Con)) (t0 t1 : AV) (h : List AObj) (K : AOut → List AObj → Prop) : funW (ctx F S cK.loops) Tryz.f46 [t0, t1] h K = cK.H (ctx F S cK.loops) t0 t1 h K := by kernel_rfl
theorem fI.eq (F : List (FuncId × aE)) (S : List (FuncId × Con)) (t0 : AV) (h : List AObj) (K : AOut → List AObj → Prop) : funW (ctx F S fI.loops) Tryz.f57 [t0] h K = fI.H (ctx F S fI.loops) t0 h K := by kernel_rfl
theorem gJ.eq (F : List (FuncId × aE)) (S : List (FuncId × Con)) (t0 : AV) (h : List AObj) (K : AOut → List AObj → Prop) : funW (ctx F S gJ.loops) Tryz.f86 [t0] h K = gJ.H (ctx F S gJ.loops) t0 h K := by kernel_rfl
theorem gK.eq (F : List (FuncId × aE)) (S : List (FuncId × Con)) (t0 : AV) (h : List AObj) (K : AOut → List AObj → Prop) : funW (ctx F S gK.loops) Tryz.f87 [t0] h K = gK.H (ctx F S gK.loops) t0 h K := by kernel_rfl
theorem eX.eq (F : List (FuncId × aE)) (S : List (FuncId × Con)) (t0 : AV) (h : List AObj) (K : AOut → List AObj → Prop) : funW (ctx F S eX.loops) Tryz.f105 [t0] h K = eX.H (ctx F S eX.loops) t0 h K := by kernel_rfl
theorem fE.eq (F : List (FuncId × aE)) (S : List (FuncId × Con)) (t0 : AV) (h : List AObj) (K : AOut → List AObj → Prop) : funW (ctx F S fE.loops) Tryz.f107 [t0] h K = fE.H (ctx F S fE.loops) t0 h K := by kernel_rfl
theorem cK.at : Tryz.prog.funcs[46]? = some Tryz.f46 := by kernel_rfl
theorem cK.nm : (Tryz.f46.name == "runtime.NumGoroutine") = false := by kernel_rfl
theorem cK.bd : Tryz.f46.body.isNone = false := by kernel_rfl
theorem fI.at : Tryz.prog.funcs[57]? = some Tryz.f57 := by kernel_rfl
theorem fI.nm : (Tryz.f57.name == "runtime.NumGoroutine") = false := by kernel_rfl
theorem fI.bd : Tryz.f57.body.isNone = false := by kernel_rfl
theorem gJ.at : Tryz.prog.funcs[86]? = some Tryz.f86 := by kernel_rfl
theorem gJ.nm : (Tryz.f86.name == "runtime.NumGoroutine") = false := by kernel_rfl
theorem gJ.bd : Tryz.f86.body.isNone = false := by kernel_rfl
theorem gK.at : Tryz.prog.funcs[87]? = some Tryz.f87 := by kernel_rfl
theorem gK.nm : (Tryz.f87.name == "runtime.NumGoroutine") = false := by kernel_rfl
theorem gK.bd : Tryz.f87.body.isNone = false := by kernel_rfl
theorem eX.at : Tryz.prog.funcs[105]? = some Tryz.f105 := by kernel_rfl
theorem eX.nm : (Tryz.f105.name == "runtime.NumGoroutine") = false := by kernel_rfl
theorem eX.bd : Tryz.f105.body.isNone = false := by kernel_rfl
theorem fE.at : Tryz.prog.funcs[107]? = some Tryz.f107 := by kernel_rfl
theorem fE.nm : (Tryz.f107.name == "runtime.NumGoroutine") = false := by kernel_rfl
theorem fE.bd : Tryz.f107.body.isNone = false := by kernel_rfl
end Lam
namespace Lam
open Go Go.Proofs
def dY.loops : Nat → bV
 | 1 => ⟨[], [], [], [(8, none), (5, some [14, 19])], [], []⟩
 | 6 => ⟨[28], [false], [1, 3, 4, 26, 27], [], [], []⟩
 | 8 => ⟨[], [], [], [(4, none), (5, some [35, 40]), (2, none), (9, some [42, 51])], [], []⟩
 | 10 => ⟨[], [], [], [(10, none), (3, some [62, 65])], [], []⟩
 | _ => ⟨[], [], [], [], [], []⟩
def dY.L1 (c : Ctx) (J2 : AV → AV → List AObj → Prop) (K : AOut → List AObj → Prop) (lv : List AV) (h0 : List AObj) (n0 : Nat) (c1 : AV) (c3 : AV) (c4 : AV) (c26 : AV) (c27 : AV) : Prop :=
 ∃ I : Nat → List AV → List AObj → Prop, (∃ n, I n lv h0) ∧ ∀ n h, ∀ t28, I n [t28] h →
 runD (binD aB .lss t28 c27) h fun t29 h =>
 bF t29
 (runD (aG cD h c26 t28) h fun t30 h =>
 runD (fitD cX (aD h t30)) h fun t31 h =>
 cT cX h fun t6 h =>
 runH (aR cX h t6 t31) h fun _ h =>
 runD (aC cX t6 0) h fun t32 h =>
 runD (fitD aB (aD h t32)) h fun t33 h =>
 runD (binD aB .lss t33 (.int .i64 0)) h fun t34 h =>
 aL (fun (J3 : AV → AV → List AObj → Prop) =>
 bC t34 false
 (runD (aC cX t6 0) h fun t36 h =>
 runD (fitD aB (aD h t36)) h fun t37 h =>
 runD (lenD aK h c3) h fun t39 h =>
 runD (binD aB .geq t37 t39) h fun t40 h =>
 J3 (.bool false) t40 h)
 (J3 (.bool true) .und h))
 (fun t35 t40 h => runD (bS t35 (.bool true) t40) h fun t41 h =>
 aL (fun (J4 : AV → AV → List AObj → Prop) =>
 bC t41 false
 (runD (aC cX t6 2) h fun t43 h =>
 runD (fitD lC (aD h t43)) h fun t44 h =>
 aL (fun (J5 : AV → AV → List AObj → Prop) =>
 bC t44 true
 (runD (aC cX t6 0) h fun t47 h =>
 runD (fitD aB (aD h t47)) h fun t48 h =>
 runD (binD aB .quo t48 (.int .i64 8)) h fun t49 h =>
 runD (lS lU h c4 t49) h fun t50 h =>
 J5 (.bool true) t50 h)
 (J5 (.bool false) .und h))
 (fun t45 t50 h => runD (bS t45 t50 (.bool false)) h fun t51 h =>
 J4 (.bool false) t51 h))
 (J4 (.bool true) .und h))
 (fun t42 t51 h => runD (bS t42 (.bool true) t51) h fun t52 h =>
 bF t52
 (K (.ret (.bool false)) h)
 (runD (aC cX t6 0) h fun t54 h =>
 runD (fitD aB (aD h t54)) h fun t55 h =>
 runD (binD aB .quo t55 (.int .i64 8)) h fun t56 h =>
 runD (aC cX t6 0) h fun t58 h =>
 runD (fitD aB (aD h t58)) h fun t59 h =>
 runD (binD aB .quo t59 (.int .i64 8)) h fun t60 h =>
 runD (lS lU h c4 t60) h fun t61 h =>
 aL (fun (J6 : AV → AV → List AObj → Prop) =>
 bC t61 false
 (runD (aC cX t6 2) h fun t63 h =>
 runD (fitD lC (aD h t63)) h fun t64 h =>
 runD (unD .not t64) h fun t65 h =>
 J6 (.bool false) t65 h)
 (J6 (.bool true) .und h))
 (fun t62 t65 h => runD (bS t62 (.bool true) t65) h fun t66 h =>
 runH (jM lU h c4 t56 t66) h fun _ h =>
 runD (aC cX t6 0) h fun t68 h =>
 runD (fitD aB (aD h t68)) h fun t69 h =>
 runD (aC cX t6 1) h fun t70 h =>
 runD (fitD aB (aD h t70)) h fun t71 h =>
 runD (aG aK h c3 t69) h fun t72 h =>
 runH (aR aB h t72 t71) h fun _ h =>
 runD (binD aB .add t28 (.int .i64 1)) h fun t73 h =>
 (∃ m, m < n ∧ I m (AV.norms n0 h [t73]) (cI n0 h)) ∧ AV.norms n0 h [c1, c3, c4, c26, c27] = [c1, c3, c4, c26, c27])))))
 (J2 c1 c3 h)
def dY.H (c : Ctx) (t0 : AV) (h : List AObj) (K : AOut → List AObj → Prop) : Prop :=
 boxW aM t0 h fun t1 h =>
 runD (aC aM t1 0) h fun t7 h =>
 runD (fitD aK (aD h t7)) h fun t8 h =>
 runD (lenD aK h t8) h fun t9 h =>
 runD (aC aM t1 1) h fun t10 h =>
 runD (fitD aK (aD h t10)) h fun t11 h =>
 runD (lenD aK h t11) h fun t12 h =>
 runD (binD aB .neq t9 t12) h fun t13 h =>
 aL (fun (J1 : AV → AV → List AObj → Prop) =>
 bC t13 false
 (runD (aC aM t1 0) h fun t15 h =>
 runD (fitD aK (aD h t15)) h fun t16 h =>
 runD (lenD aK h t16) h fun t17 h =>
 aS false c (.fn (.func 33) [] []) [t17] h (fun t18 h =>
 runD (unD .not t18) h fun t19 h =>
 J1 (.bool false) t19 h)
 (fun v h => K (.pan v) h))
 (J1 (.bool true) .und h))
 (fun t14 t19 h => runD (bS t14 (.bool true) t19) h fun t20 h =>
 bF t20
 (K (.ret (.bool false)) h)
 (runD (aC aM t1 1) h fun t21 h =>
 runD (fitD aK (aD h t21)) h fun t22 h =>
 aS false c (.fn (.func 34) [] []) [t22] h (fun t23 h =>
 runD (kR lU h.length) h fun t24 h =>
 runD (aC aM t1 2) h fun t25 h =>
 runD (fitD cD (aD h t25)) h fun t26 h =>
 runD (lenD cD h t26) h fun t27 h =>
 aL (fun (J2 : AV → AV → List AObj → Prop) =>
 dP [false] [(.int .i64 0)] h fun lv h => dY.L1 c J2 K (AV.norms h.length h lv) (cI h.length h) h.length (AV.norm h.length h t1) (AV.norm h.length h t23) (AV.norm h.length h t24) (AV.norm h.length h t26) (AV.norm h.length h t27))
 (fun t1 t3 h => runD (aC aM t1 0) h fun t75 h =>
 runD (fitD aK (aD h t75)) h fun t76 h =>
 aS false c (.fn (.func 35) [] []) [t3, t76] h (fun t77 h =>
 K (.ret t77) h)
 (fun v h => K (.pan v) h)))
 (fun v h => K (.pan v) h)))
def gR.loops : Nat → bV
 | _ => ⟨[], [], [], [], [], []⟩
def gR.H (c : Ctx) (t0 : AV) (h : List AObj) (K : AOut → List AObj → Prop) : Prop :=
 cT aM h fun t2 h =>
 runD (lenD aK h t0) h fun t5 h =>
 aS false c (.fn (.func 33) [] []) [t5] h (fun t6 h =>
 runD (unD .not t6) h fun t7 h =>
 bF t7
 (runD (gY aM []) h fun t8 h =>
 runH (aR aM h t2 t8) h fun _ h =>
 cZ (fitD aM (aD h t2)) fun r0 => K (.ret (.tup [r0, (.int .i64 40)])) h)
 (aS false c (.fn (.func 34) [] []) [t0] h (fun t10 h =>
 aS false c (.fn (.func 34) [] []) [t0] h (fun t12 h =>
 runD (gY aM [(0, t10), (1, t12)]) h fun t13 h =>
 runH (aR aM h t2 t13) h fun _ h =>
 cZ (fitD aM (aD h t2)) fun r0 => K (.ret (.tup [r0, (.int .i64 0)])) h)
 (fun v h => K (.pan v) h))
 (fun v h => K (.pan v) h)))
 (fun v h => K (.pan v) h)
def fJ.loops : Nat → bV
 | 1 => ⟨[], [], [], [(3, none), (3, some [5, 8])], [], []⟩
 | _ => ⟨[], [], [], [], [], []⟩
def fJ.H (c : Ctx) (t0 : AV) (h : List AObj) (K : AOut → List AObj → Prop) : Prop :=
 runD (binD aB .leq t0 (.int .i64 4096)) h fun t4 h =>
 aL (fun (J1 : AV → AV → List AObj → Prop) =>
 bC t4 true
 (runD (binD aB .rem t0 (.int .i64 8)) h fun t7 h =>
 runD (binD aB .eql t7 (.int .i64 0)) h fun t8 h =>
 J1 (.bool true) t8 h)
 (J1 (.bool false) .und h))
 (fun t5 t8 h => runD (bS t5 t8 (.bool false)) h fun t9 h =>
 K (.ret t9) h)
def iC.loops : Nat → bV
 | _ => ⟨[], [], [], [], [], []⟩
def iC.H (c : Ctx) (t0 : AV) (t1 : AV) (t2 : AV) (h : List AObj) (K : AOut → List AObj → Prop) : Prop :=
 boxW aM t0 h fun t3 h =>
 cT aM h fun t6 h =>
 runD (fitD aM (aD h t3)) h fun t9 h =>
 aS false c (.fn (.func 152) [] []) [t9, t1] h (fun t11 h =>
 runD (unD .not t11) h fun t12 h =>
 bF t12
 (runD (fitD aM (aD h t3)) h fun t13 h =>
 runH (aR aM h t6 t13) h fun _ h =>
 cZ (fitD aM (aD h t6)) fun r0 => K (.ret (.tup [r0, (.int .i64 40)])) h)
 (runD (aC aM t3 0) h fun t14 h =>
 runD (fitD aK (aD h t14)) h fun t15 h =>
 runD (lenD aK h t15) h fun t16 h =>
 runD (jY aK t16 t16 h.length) h fun t17 h =>
 runD (aC aM t3 0) h fun t19 h =>
 runD (fitD aK (aD h t19)) h fun t20 h =>
 runM (lX aK h t17 t20) h fun t21 h =>
 runD (aG aK h t17 t1) h fun t25 h =>
 runH (aR aB h t25 t2) h fun _ h =>
 runD (aC aM t3 1) h fun t27 h =>
 runD (fitD aK (aD h t27)) h fun t28 h =>
 runD (aC aM t3 2) h fun t29 h =>
 runD (fitD cD (aD h t29)) h fun t30 h =>
 aS false c.noS (.fn (.func 153) [] []) [t30] h (fun t31 h =>
 runD (gY cX [(0, t1), (1, t2)]) h fun t34 h =>
 runD (gA cD 1 [(0, t34)] h.length) h fun t35 h =>
 jZ (gP cD h t31 t35 h.length) (hX cD h t31 t35) h fun t36 h =>
 runD (gY aM [(0, t17), (1, t28), (2, t36)]) h fun t37 h =>
 runH (aR aM h t6 t37) h fun _ h =>
 sepB t31 [t27] = true ∧ cZ (fitD aM (aD h t6)) fun r0 => K (.ret (.tup [r0, (.int .i64 0)])) h)
 (fun _ _ => False)))
 (fun v h => K (.pan v) h)
def gB.loops : Nat → bV
 | _ => ⟨[], [], [], [], [], []⟩
def gB.H (c : Ctx) (t0 : AV) (t1 : AV) (h : List AObj) (K : AOut → List AObj → Prop) : Prop :=
 boxW aM t0 h fun t2 h =>
 cT aM h fun t4 h =>
 runD (fitD aM (aD h t2)) h fun t8 h =>
 runD (fitD aM (aD h t2)) h fun t9 h =>
 aS false c.noS (.fn (.func 154) [] []) [t9, t1] h (fun t11 h =>
 aS false c.noS (.fn (.func 152) [] []) [t8, t11] h (fun t12 h =>
 runD (unD .not t12) h fun t13 h =>
 bF t13
 (runD (fitD aM (aD h t2)) h fun t14 h =>
 runH (aR aM h t4 t14) h fun _ h =>
 cZ (fitD aM (aD h t4)) fun r0 => K (.ret (.tup [r0, (.int .i64 40)])) h)
 (runD (aC aM t2 2) h fun t15 h =>
 runD (fitD cD (aD h t15)) h fun t16 h =>
 aS false c (.fn (.func 155) [] []) [t16] h (fun t17 h =>
 cT cD h fun t6 h =>
 runH (aR cD h t6 t17) h fun _ h =>
 runD (fitD aM (aD h t2)) h fun t18 h =>
 aS false c (.fn (.func 156) [] []) [t18, t1] h (fun t20 h =>
 aL (fun (J1 : AV → AV → AV → List AObj → Prop) =>
 zY c.iterS t20 h
 (fun id r args h K => lpIs h id .ready r ∧ aCs args fun t21 =>
 lpIs h id .ready r ∧
 runD (fitD cD (aD (List.set h id (.lp .busy none r)) t6)) (List.set h id (.lp .busy none r)) fun t22 h =>
 runD (aG cD h t22 t21) h fun t24 h =>
 runD (aC cX t24 2) h fun t25 h =>
 runH (aR lC h t25 (.bool true)) h fun _ h =>
 lpIs h id .busy r ∧ K (.ret (.bool true)) (List.set h id (.lp .ready none r)))
 (fun id r ao h => endX id r ao h
 (fun h => J1 t2 t4 t6 h)
 (fun h => cZ (fitD aM (aD h t4)) fun r0 => K (.ret (.tup [r0, (.int .i64 0)])) h)
 (fun i h => aIA i 0 (J1 t2 t4 t6 h) (False))
 (fun l h => False)
 (fun v h => K (.pan v) h)))
 (fun t2 t4 t6 h => runD (fitD cD (aD h t6)) h fun t26 h =>
 runD (aC aM t2 2) h fun t27 h =>
 runH (aR cD h t27 t26) h fun _ h =>
 runD (fitD aM (aD h t2)) h fun t28 h =>
 runH (aR aM h t4 t28) h fun _ h =>
 cZ (fitD aM (aD h t4)) fun r0 => K (.ret (.tup [r0, (.int .i64 0)])) h))
 (fun v h => K (.pan v) h))
 (fun v h => K (.pan v) h)))
 (fun _ _ => False))
 (fun _ _ => False)
def gC.loops : Nat → bV
 | _ => ⟨[], [], [], [], [], []⟩
def gC.H (c : Ctx) (t0 : AV) (h : List AObj) (K : AOut → List AObj → Prop) : Prop :=
 boxW aM t0 h fun t1 h =>
 cT aM h fun t2 h =>
 runD (fitD aM (aD h t1)) h fun t4 h =>
 aS false c (.fn (.func 13) [] []) [t4] h (fun t5 h =>
 runD (unD .not t5) h fun t6 h =>
 bF t6
 (runD (fitD aM (aD h t1)) h fun t7 h =>
 runH (aR aM h t2 t7) h fun _ h =>
 cZ (fitD aM (aD h t2)) fun r0 => K (.ret (.tup [r0, (.int .i64 40)])) h)
 (runD (fitD aM (aD h t1)) h fun t8 h =>
 aS false c (.fn (.func 157) [] []) [t8, (.fn (.func 158) [] [])] h (fun t9 h =>
 runH (aR aM h t2 t9) h fun _ h =>
 cZ (fitD aM (aD h t2)) fun r0 => K (.ret (.tup [r0, (.int .i64 0)])) h)
 (fun v h => K (.pan v) h)))
 (fun v h => K (.pan v) h)
def fK.loops : Nat → bV
 | 1 => ⟨[], [], [], [(3, none), (5, some [7, 12]), (2, none), (2, some [14, 16])], [], []⟩
 | _ => ⟨[], [], [], [], [], []⟩
def fK.H (c : Ctx) (t0 : AV) (t1 : AV) (h : List AObj) (K : AOut → List AObj → Prop) : Prop :=
 boxW aM t0 h fun t2 h =>
 runD (binD aB .geq t1 (.int .i64 0)) h fun t6 h =>
 aL (fun (J1 : AV → AV → List AObj → Prop) =>
 bC t6 true
 (runD (aC aM t2 0) h fun t9 h =>
 runD (fitD aK (aD h t9)) h fun t10 h =>
 runD (lenD aK h t10) h fun t11 h =>
 runD (binD aB .lss t1 t11) h fun t12 h =>
 J1 (.bool true) t12 h)
 (J1 (.bool false) .und h))
 (fun t7 t12 h => runD (bS t7 t12 (.bool false)) h fun t13 h =>
 aL (fun (J2 : AV → AV → List AObj → Prop) =>
 bC t13 true
 (runD (fitD aM (aD h t2)) h fun t15 h =>
 aS false c (.fn (.func 13) [] []) [t15] h (fun t16 h =>
 J2 (.bool true) t16 h)
 (fun v h => K (.pan v) h))
 (J2 (.bool false) .und h))
 (fun t14 t16 h => runD (bS t14 t16 (.bool false)) h fun t17 h =>
 K (.ret t17) h))
def gM.loops : Nat → bV
 | 1 => ⟨[], [], [], [(3, none), (6, some [7, 13])], [], []⟩
 | _ => ⟨[], [], [], [], [], []⟩
def gM.H (c : Ctx) (t0 : AV) (t1 : AV) (h : List AObj) (K : AOut → List AObj → Prop) : Prop :=
 boxW aM t0 h fun t2 h =>
 runD (binD aB .lss t1 (.int .i64 0)) h fun t6 h =>
 aL (fun (J1 : AV → AV → List AObj → Prop) =>
 bC t6 false
 (runD (aC aM t2 0) h fun t9 h =>
 runD (fitD aK (aD h t9)) h fun t10 h =>
 runD (lenD aK h t10) h fun t11 h =>
 runD (binD aB .quo t11 (.int .i64 8)) h fun t12 h =>
 runD (binD aB .geq t1 t12) h fun t13 h =>
 J1 (.bool false) t13 h)
 (J1 (.bool true) .und h))
 (fun t7 t13 h => runD (bS t7 (.bool true) t13) h fun t14 h =>
 bF t14
 (K (.ret (.int .i64 (-1))) h)
 (runD (binD aB .mul t1 (.int .i64 8)) h fun t16 h =>
 K (.ret t16) h))
def iP.loops : Nat → bV
 | _ => ⟨[], [], [], [], [], []⟩
def iP.H (c : Ctx) (t0 : AV) (t1 : AV) (h : List AObj) (K : AOut → List AObj → Prop) : Prop :=
 boxW aM t0 h fun t2 h =>
 boxW aB t1 h fun t3 h =>
 K (.ret (.fn (.func 159) [] [t2, t3])) h
def fN.loops : Nat → bV
 | 3 => ⟨[17], [false], [1, 4, 5, 15, 16], [], [5], []⟩
 | _ => ⟨[], [], [], [], [], []⟩
def fN.L1 (c : Ctx) (J1 : AV → AV → List AObj → Prop) (K : AOut → List AObj → Prop) (lv : List AV) (h0 : List AObj) (n0 : Nat) (c1 : AV) (c4 : AV) (c5 : AV) (c15 : AV) (c16 : AV) : Prop :=
 ∃ I : Nat → List AV → List AObj → Prop, (∃ n, I n lv h0) ∧ ∀ n h, ∀ t17, I n [t17] h →
 runD (binD aB .lss t17 c16) h fun t18 h =>
 bF t18
 (aL (fun (J2 : List AObj → Prop) =>
 runD (aG cD h c15 t17) h fun t19 h =>
 runD (fitD cX (aD h t19)) h fun t20 h =>
 cT cX h fun t7 h =>
 runH (aR cX h t7 t20) h fun _ h =>
 runD (fitD cX (aD h t7)) h fun t22 h =>
 aS false c c1 [t22] h (fun t23 h =>
 bF t23
 (runD (aC aM c5 1) h fun t24 h =>
 runD (fitD aK (aD h t24)) h fun t25 h =>
 runD (aC cX t7 0) h fun t26 h =>
 runD (fitD aB (aD h t26)) h fun t27 h =>
 runD (aC cX t7 1) h fun t28 h =>
 runD (fitD aB (aD h t28)) h fun t29 h =>
 runD (aG aK h t25 t27) h fun t30 h =>
 runH (aR aB h t30 t29) h fun _ h =>
 J2 h)
 (runD (aC aM c5 2) h fun t31 h =>
 runD (fitD cD (aD h t31)) h fun t32 h =>
 runD (fitD cX (aD h t7)) h fun t33 h =>
 runD (gA cD 1 [(0, t33)] h.length) h fun t34 h =>
 jZ (gP cD h t32 t34 h.length) (hX cD h t32 t34) h fun t35 h =>
 runD (aC aM c5 2) h fun t36 h =>
 runH (aR cD h t36 t35) h fun _ h =>
 J2 h))
 (fun v h => K (.pan v) h))
 (fun h => runD (binD aB .add t17 (.int .i64 1)) h fun t37 h =>
 (∃ m, m < n ∧ I m (AV.norms n0 h [t37]) (cI n0 h)) ∧ AV.norms n0 h [c1, c4, c5, c15, c16] = [c1, c4, c5, c15, c16]))
 (J1 c4 c5 h)
def fN.H (c : Ctx) (t0 : AV) (t1 : AV) (h : List AObj) (K : AOut → List AObj → Prop) : Prop :=
 boxW aM t0 h fun t2 h =>
 cT aM h fun t4 h =>
 runD (aC aM t2 0) h fun t8 h =>
 runD (fitD aK (aD h t8)) h fun t9 h =>
 runD (aC aM t2 1) h fun t10 h =>
 runD (fitD aK (aD h t10)) h fun t11 h =>
 aS false c.noS (.fn (.func 34) [] []) [t11] h (fun t12 h =>
 runD (gY aM [(0, t9), (1, t12)]) h fun t13 h =>
 cT aM h fun t5 h =>
 runH (aR aM h t5 t13) h fun _ h =>
 runD (aC aM t2 2) h fun t14 h =>
 runD (fitD cD (aD h t14)) h fun t15 h =>
 runD (lenD cD h t15) h fun t16 h =>
 aL (fun (J1 : AV → AV → List AObj → Prop) =>
 dP [false] [(.int .i64 0)] (boxH [t5] h) fun lv h => fN.L1 c J1 K (AV.norms h.length h lv) (cI h.length h) h.length (AV.norm h.length h t1) (AV.norm h.length h t4) (AV.norm h.length h t5) (AV.norm h.length h t15) (AV.norm h.length h t16))
 (fun t4 t5 h => runD (fitD aM (aD h t5)) h fun t38 h =>
 runH (aR aM h t4 t38) h fun _ h =>
 cZ (fitD aM (aD h t4)) fun r0 => K (.ret r0) h))
 (fun _ _ => False)
def eL.loops : Nat → bV
 | _ => ⟨[], [], [], [], [], []⟩
def eL.H (c : Ctx) (t0 : AV) (h : List AObj) (K : AOut → List AObj → Prop) : Prop :=
 boxW cX t0 h fun t1 h =>
 runD (aC cX t1 2) h fun t3 h =>
 runD (fitD lC (aD h t3)) h fun t4 h =>
 K (.ret t4) h
def fO.loops : Nat → bV
 | 1 => ⟨[9], [false], [0, 2, 7, 8], [], [], []⟩
 | 3 => ⟨[], [], [], [(6, none), (4, some [19, 23])], [], []⟩
 | _ => ⟨[], [], [], [], [], []⟩
def fO.L1 (c : Ctx) (J1 : List AObj → Prop) (K : AOut → List AObj → Prop) (lv : List AV) (h0 : List AObj) (n0 : Nat) (c0 : AV) (c2 : AV) (c7 : AV) (c8 : AV) : Prop :=
 ∃ I : Nat → List AV → List AObj → Prop, (∃ n, I n lv h0) ∧ ∀ n h, ∀ t9, I n [t9] h →
 runD (binD aB .lss t9 c8) h fun t10 h =>
 bF t10
 (runD (aG cD h c7 t9) h fun t12 h =>
 runD (fitD cX (aD h t12)) h fun t13 h =>
 cT cX h fun t5 h =>
 runH (aR cX h t5 t13) h fun _ h =>
 runD (aC cX t5 0) h fun t14 h =>
 runD (fitD aB (aD h t14)) h fun t15 h =>
 runD (binD aB .quo t15 (.int .i64 8)) h fun t16 h =>
 runD (fitD aB (aD h c2)) h fun t17 h =>
 runD (binD aB .eql t16 t17) h fun t18 h =>
 aL (fun (J2 : AV → AV → List AObj → Prop) =>
 bC t18 true
 (aS false c c0 [t9] h (fun t22 h =>
 runD (unD .not t22) h fun t23 h =>
 J2 (.bool true) t23 h)
 (fun v h => K (.pan v) h))
 (J2 (.bool false) .und h))
 (fun t19 t23 h => runD (bS t19 t23 (.bool false)) h fun t24 h =>
 bF t24
 (K (.ret (.tup [])) h)
 (runD (binD aB .add t9 (.int .i64 1)) h fun t25 h =>
 (∃ m, m < n ∧ I m (AV.norms n0 h [t25]) (cI n0 h)) ∧ AV.norms n0 h [c0, c2, c7, c8] = [c0, c2, c7, c8])))
 (J1 h)
def fO.H (c : Ctx) (t0 : AV) (t1 : AV) (t2 : AV) (h : List AObj) (K : AOut → List AObj → Prop) : Prop :=
 runD (aC aM t1 2) h fun t6 h =>
 runD (fitD cD (aD h t6)) h fun t7 h =>
 runD (lenD cD h t7) h fun t8 h =>
 aL (fun (J1 : List AObj → Prop) =>
 dP [false] [(.int .i64 0)] h fun lv h => fO.L1 c J1 K (AV.norms h.length h lv) (cI h.length h) h.length (AV.norm h.length h t0) (AV.norm h.length h t2) (AV.norm h.length h t7) (AV.norm h.length h t8))
 (fun h => K (.ret (.tup [])) h)
theorem dY.eq (F : List (FuncId × aE)) (S : List (FuncId × Con)) (t0 : AV) (h : List AObj) (K : AOut → List AObj → Prop) : funW (ctx F S dY.loops) Tryz.f13 [t0] h K = dY.H (ctx F S dY.loops) t0 h K := by kernel_rfl
theorem gR.eq (F : List (FuncId × aE)) (S : List (FuncId × Con)) (t0 : AV) (h : List AObj) (K : AOut → List AObj → Prop) : funW (ctx F S gR.loops) Tryz.f28 [t0] h K = gR.H (ctx F S gR.loops) t0 h K := by kernel_rfl
theorem fJ.eq (F : List (FuncId × aE)) (S : List (FuncId × Con)) (t0 : AV) (h : List AObj) (K : AOut → List AObj → Prop) : funW (ctx F S fJ.loops) Tryz.f33 [t0] h K = fJ.H (ctx F S fJ.loops) t0 h K := by kernel_rfl
theorem iC.eq (F : List (FuncId × aE)) (S : List (FuncId × Con)) (t0 t1 t2 : AV) (h : List AObj) (K : AOut → List AObj → Prop) : funW (ctx F S iC.loops) Tryz.f148 [t0, t1, t2] h K = iC.H (ctx F S iC.loops) t0 t1 t2 h K := by kernel_rfl
theorem gB.eq (F : List (FuncId × aE)) (S : List (FuncId × Con)) (Is : List (FuncId × (Con → Con))) (t0 t1 : AV) (h : List AObj) (K : AOut → List AObj → Prop) : funW (ctxI F S Is gB.loops) Tryz.f149 [t0, t1] h K = gB.H (ctxI F S Is gB.loops) t0 t1 h K := by kernel_rfl
theorem gC.eq (F : List (FuncId × aE)) (S : List (FuncId × Con)) (t0 : AV) (h : List AObj) (K : AOut → List AObj → Prop) : funW (ctx F S gC.loops) Tryz.f150 [t0] h K = gC.H (ctx F S gC.loops) t0 h K := by kernel_rfl
theorem fK.eq (F : List (FuncId × aE)) (S : List (FuncId × Con)) (t0 t1 : AV) (h : List AObj) (K : AOut → List AObj → Prop) : funW (ctx F S fK.loops) Tryz.f152 [t0, t1] h K = fK.H (ctx F S fK.loops) t0 t1 h K := by kernel_rfl
theorem gM.eq (F : List (FuncId × aE)) (S : List (FuncId × Con)) (t0 t1 : AV) (h : List AObj) (K : AOut → List AObj → Prop) : funW (ctx F S gM.loops) Tryz.f154 [t0, t1] h K = gM.H (ctx F S gM.loops) t0 t1 h K := by kernel_rfl
theorem iP.eq (F : List (FuncId × aE)) (S : List (FuncId × Con)) (t0 t1 : AV) (h : List AObj) (K : AOut → List AObj → Prop) : funW (ctx F S iP.loops) Tryz.f156 [t0, t1] h K = iP.H (ctx F S iP.loops) t0 t1 h K := by kernel_rfl
theorem fN.eq (F : List (FuncId × aE)) (S : List (FuncId × Con)) (t0 t1 : AV) (h : List AObj) (K : AOut → List AObj → Prop) : funW (ctx F S fN.loops) Tryz.f157 [t0, t1] h K = fN.H (ctx F S fN.loops) t0 t1 h K := by kernel_rfl
theorem eL.eq (F : List (FuncId × aE)) (S : List (FuncId × Con)) (t0 : AV) (h : List AObj) (K : AOut → List AObj → Prop) : funW (ctx F S eL.loops) Tryz.f158 [t0] h K = eL.H (ctx F S eL.loops) t0 h K := by kernel_rfl
theorem fO.eq (F : List (FuncId × aE)) (S : List (FuncId × Con)) (l : Nat) (Y : Con) (t0 t1 t2 : AV) (h : List AObj) (K : AOut → List AObj → Prop) : funW ((ctx F S fO.loops).withY l Y) Tryz.f159 [t0, t1, t2] h K = fO.H ((ctx F S fO.loops).withY l Y) t0 t1 t2 h K := by kernel_rfl
theorem dY.at : Tryz.prog.funcs[13]? = some Tryz.f13 := by kernel_rfl
theorem dY.nm : (Tryz.f13.name == "runtime.NumGoroutine") = false := by kernel_rfl
theorem dY.bd : Tryz.f13.body.isNone = false := by kernel_rfl
theorem gR.at : Tryz.prog.funcs[28]? = some Tryz.f28 := by kernel_rfl
theorem gR.nm : (Tryz.f28.name == "runtime.NumGoroutine") = false := by kernel_rfl
theorem gR.bd : Tryz.f28.body.isNone = false := by kernel_rfl
theorem fJ.at : Tryz.prog.funcs[33]? = some Tryz.f33 := by kernel_rfl
theorem fJ.nm : (Tryz.f33.name == "runtime.NumGoroutine") = false := by kernel_rfl
theorem fJ.bd : Tryz.f33.body.isNone = false := by kernel_rfl
theorem iC.at : Tryz.prog.funcs[148]? = some Tryz.f148 := by kernel_rfl
theorem iC.nm : (Tryz.f148.name == "runtime.NumGoroutine") = false := by kernel_rfl
theorem iC.bd : Tryz.f148.body.isNone = false := by kernel_rfl
theorem gB.at : Tryz.prog.funcs[149]? = some Tryz.f149 := by kernel_rfl
theorem gB.nm : (Tryz.f149.name == "runtime.NumGoroutine") = false := by kernel_rfl
theorem gB.bd : Tryz.f149.body.isNone = false := by kernel_rfl
theorem gC.at : Tryz.prog.funcs[150]? = some Tryz.f150 := by kernel_rfl
theorem gC.nm : (Tryz.f150.name == "runtime.NumGoroutine") = false := by kernel_rfl
theorem gC.bd : Tryz.f150.body.isNone = false := by kernel_rfl
theorem fK.at : Tryz.prog.funcs[152]? = some Tryz.f152 := by kernel_rfl
theorem fK.nm : (Tryz.f152.name == "runtime.NumGoroutine") = false := by kernel_rfl
theorem fK.bd : Tryz.f152.body.isNone = false := by kernel_rfl
theorem gM.at : Tryz.prog.funcs[154]? = some Tryz.f154 := by kernel_rfl
theorem gM.nm : (Tryz.f154.name == "runtime.NumGoroutine") = false := by kernel_rfl
theorem gM.bd : Tryz.f154.body.isNone = false := by kernel_rfl
theorem iP.at : Tryz.prog.funcs[156]? = some Tryz.f156 := by kernel_rfl
theorem iP.nm : (Tryz.f156.name == "runtime.NumGoroutine") = false := by kernel_rfl
theorem iP.bd : Tryz.f156.body.isNone = false := by kernel_rfl
theorem fN.at : Tryz.prog.funcs[157]? = some Tryz.f157 := by kernel_rfl
theorem fN.nm : (Tryz.f157.name == "runtime.NumGoroutine") = false := by kernel_rfl
theorem fN.bd : Tryz.f157.body.isNone = false := by kernel_rfl
theorem eL.at : Tryz.prog.funcs[158]? = some Tryz.f158 := by kernel_rfl
theorem eL.nm : (Tryz.f158.name == "runtime.NumGoroutine") = false := by kernel_rfl
theorem eL.bd : Tryz.f158.body.isNone = false := by kernel_rfl
theorem fO.at : Tryz.prog.funcs[159]? = some Tryz.f159 := by kernel_rfl
theorem fO.nm : (Tryz.f159.name == "runtime.NumGoroutine") = false := by kernel_rfl
theorem fO.bd : Tryz.f159.body.isNone = false := by kernel_rfl
end Lam
namespace Lam
open Go Go.Proofs
def fJ.C : aE
  | [.int .i64 n] => some (false, pD True (.bool (szB n)))
  | _ => none
theorem fJ.spec : bO Tryz.prog 33 fJ.C := by
  refine bO.of (bP (F := []) (S := []) (by simp) (by simp) fJ.loops) fJ.at fJ.nm fJ.bd ?_
  intro vs b S v news e hS
  unfold fJ.C at e
  split at e
  rotate_left
  · cases e
  cases e
  rw [fJ.eq]
  unfold fJ.H
  simp (maxSteps := 4000000) only [go_sem, reduceEqDiff, Nat.reduceLT, reduceAdd, reduceSub, reduceLeDiff, reduceReplicate, reduceToNat]
  exact ⟨fun _ => by decide, aH rfl rfl⟩

def aX.C : aE
  | [.sl _ (.ints .i64 l)] => some (true, some (roomy l.length, .sref false 0 0 0 l.length, [.row .own 0 (.ints .i64 l)]))
  | _ => none
theorem aX.spec : bO Tryz.prog 34 aX.C := by
  refine bO.of (bP (F := []) (S := []) (by simp) (by simp) aX.loops) aX.at aX.nm aX.bd ?_
  intro vs b S v news e hS
  unfold aX.C at e
  split at e
  rotate_left
  · cases e
  cases e
  rw [aX.eq]
  unfold aX.H
  simp (maxSteps := 4000000) only [go_sem, reduceEqDiff, Nat.reduceLT, reduceAdd, reduceSub, reduceLeDiff, reduceReplicate, reduceToNat]
  rename_i l
  intro b hb
  refine ⟨fun h => ?_, fun h => ⟨hS, yS rfl (by simp)⟩⟩
  have : l = [] := List.eq_nil_of_length_eq_zero (hb h)
  subst this
  exact aGm rfl
def bH.C : aE
  | [.sl _ (.pends l)] => some (true, some (roomy l.length, .sref false 0 0 0 l.length, [.row .own 0 (.pends l)]))
  | _ => none
theorem bH.spec : bO Tryz.prog 155 bH.C := by
  refine bO.of (bP (F := []) (S := []) (by simp) (by simp) bH.loops) bH.at bH.nm bH.bd ?_
  intro vs b S v news e hS
  unfold bH.C at e
  split at e
  rotate_left
  · cases e
  cases e
  rw [bH.eq]
  unfold bH.H
  simp (maxSteps := 4000000) only [go_sem, reduceEqDiff, Nat.reduceLT, reduceAdd, reduceSub, reduceLeDiff, reduceReplicate, reduceToNat]
  rename_i l
  intro b hb
  refine ⟨fun h => ?_, fun h => ⟨hS, yS rfl (by simp)⟩⟩
  have : l = [] := List.eq_nil_of_length_eq_zero (hb h)
  subst this
  exact aGm rfl
def bI.C : aE
  | [.sl _ (.pends l)] => some (false, pD True (.sl true (.pends l)))
  | _ => none
theorem bI.spec : bO Tryz.prog 153 bI.C := by
  refine bO.of (bP (F := []) (S := []) (by simp) (by simp) bI.loops) bI.at bI.nm bI.bd ?_
  intro vs b S v news e hS
  unfold bI.C at e
  split at e
  rotate_left
  · cases e
  cases e
  rw [bI.eq]
  unfold bI.H
  simp (maxSteps := 4000000) only [go_sem, reduceEqDiff, Nat.reduceLT, reduceAdd, reduceSub, reduceLeDiff, reduceReplicate, reduceToNat]
  exact ⟨by omega, aKw rfl⟩
def bT.C : aE
  | [.sl _ (.ints .i64 a), .sl _ (.ints .i64 b)] => some (false, pD (roomy a.length) (.bool (decide (a = b))))
  | _ => none
theorem bT.spec : bO Tryz.prog 35 bT.C := by
  refine bO.of (bP (F := []) (S := []) (by simp) (by simp) bT.loops) bT.at bT.nm bT.bd ?_
  intro vs b S v news e hS
  unfold bT.C at e
  split at e
  rotate_left
  · cases e
  cases e
  rw [bT.eq]
  unfold bT.H
  simp (maxSteps := 4000000) only [go_sem, reduceEqDiff, Nat.reduceLT, reduceAdd, reduceSub, reduceLeDiff, reduceReplicate, reduceToNat]
  rename_i a _ b
  unfold roomy at hS
  refine ⟨fun hne => ?_, fun heq => ?_⟩
  · have : decide (a = b) = false := by rw [decide_eq_false_iff_not]; rintro rfl; exact hne rfl
    rw [this]; exact aH rfl rfl
  rw [aA]
  unfold bT.L1
  have hlen : a.length = b.length := by omega
  refine ⟨fun m lv h' => ∃ k : Nat, k + m = a.length ∧ lv = [.int .i64 k] ∧ h' = [] ∧ ∀ i, i < k → a.getD i 0 = b.getD i 0, ⟨a.length, 0, by omega, rfl, rfl, fun i hi => by omega⟩, ?_⟩
  rintro m h' t8 ⟨k, hk, hlv, rfl, hall⟩
  simp only [List.cons.injEq, and_true] at hlv
  subst hlv
  simp only [go_sem, reduceEqDiff, Nat.reduceLT, reduceAdd, reduceSub, reduceLeDiff, reduceReplicate, reduceToNat]
  refine ⟨fun hlt => ⟨by omega, by omega, fun h0 => ?_, fun h0 => ?_⟩, fun hge => ?_⟩
  · have : decide (a = b) = false := by rw [decide_eq_false_iff_not]; rintro rfl; exact h0 rfl
    rw [this]; exact aH rfl rfl
  · refine ⟨m - 1, by omega, k + 1, by omega, by rw [w64 (by omega) (by omega)]; rfl, ?_⟩
    intro i hi
    by_cases e : i = k
    · subst e; exact h0
    · exact hall i (by omega)
  · have : a = b := by
      apply List.ext_getElem hlen
      intro i h1 h2
      have := hall i (by omega)
      rw [List.getD_eq_getElem?_getD, List.getD_eq_getElem?_getD, List.getElem?_eq_getElem h1, List.getElem?_eq_getElem h2] at this
      exact this
    rw [decide_eq_true this]; exact aH rfl rfl

def dY.C : aE
  | [.agg [.sl false (.ints .i64 vol), .sl false (.ints .i64 per), .sl false (.pends pend)]] => some (false, pD (kP vol per pend) (.bool (nA vol per pend)))
  | _ => none
theorem dY.spec : bO Tryz.prog 13 dY.C := by
  refine bO.of (bP (F := [(33, fJ.C), (34, aX.C), (35, bT.C)]) (S := []) (by simpa using ⟨fJ.spec, aX.spec, bT.spec⟩) (by simp) dY.loops) dY.at dY.nm dY.bd ?_
  intro vs b S v news e hS
  unfold dY.C at e
  split at e
  rotate_left
  · cases e
  cases e
  rw [dY.eq]
  unfold dY.H
  simp (maxSteps := 4000000) only [go_sem, reduceEqDiff, Nat.reduceLT, reduceAdd, reduceSub, reduceLeDiff, reduceReplicate, reduceToNat, fJ.C, aX.C, bT.C]
  rename_i vol per pend
  obtain ⟨r1, r2, r3⟩ := hS
  unfold roomy at r1 r2 r3
  refine ⟨fun hb => ?_, fun hb => ⟨r2, ?_⟩⟩
  · have : nA vol per pend = false := by
      unfold nA
      rw [Bool.or_eq_true] at hb
      rcases hb with hb | hb
      · have : ¬ vol.length = per.length := by
          intro h; rw [h] at hb; simp at hb
        simp [this]
      · have : szB vol.length = false := by simpa using hb
        simp [this]
    rw [this]; exact aH rfl rfl
  rw [Bool.or_eq_false_iff] at hb
  have hlen : vol.length = per.length := by
    have := hb.1
    rw [Bool.not_eq_false', decide_eq_true_eq] at this
    omega
  have hsz : szB vol.length = true := by simpa using hb.2
  have hcheck : nA vol per pend = decide (chk pend per (fun _ => false) = some vol) := by unfold nA; rw [hsz, decide_eq_true hlen]; simp
  rw [hcheck, aA]
  unfold dY.L1
  refine ⟨fun m lv h' => ∃ (k : Nat) (l : List Int) (o : Int → Bool), k + m = pend.length ∧ lv = [.int .i64 k] ∧ l.length = per.length ∧ chk pend per (fun _ => false) = chk (pend.drop k) l o ∧
      h' = [.box (.agg [.sl false (.ints .i64 vol), .sl false (.ints .i64 per), .sl false (.pends pend)]), .row .own 0 (.ints .i64 l), .map (.ib o)],
    ⟨pend.length, 0, per, fun _ => false, by omega, rfl, rfl, rfl, rfl⟩, ?_⟩
  rintro m h' t28 ⟨k, l, o, hk, hlv, hll, hchk, rfl⟩
  simp only [List.cons.injEq, and_true] at hlv
  subst hlv
  simp only [go_sem, reduceEqDiff, Nat.reduceLT, reduceAdd, reduceSub, reduceLeDiff, reduceReplicate, reduceToNat, hll, aAV]
  refine ⟨fun hlt => ⟨by omega, ?_⟩, fun hge => ?_⟩
  · have hkl : k < pend.length := by omega
    have hd : pend.drop k = pend.getD k ⟨0, 0, false⟩ :: pend.drop (k + 1) := by
      rw [List.getD_eq_getElem?_getD, List.getElem?_eq_getElem hkl, List.drop_eq_getElem_cons hkl]; rfl
    generalize pend.getD k ⟨0, 0, false⟩ = p at *
    have hch : chk (pend.drop k) l o = match badB p l.length o with
      | true => none
      | false => chk (pend.drop (k + 1)) (l.set p.at_.toNat p.val) (yU p o) := by rw [hd]; rfl
    rw [hll] at hch
    refine ⟨fun _ _ => by decide, fun hbad => ?_, fun hok => ?_⟩
    · have : badB p per.length o = true := hbad
      rw [this] at hch
      rw [hchk, hch]; exact aH rfl rfl
    · have hb2 : badB p per.length o = false := hok
      rw [hb2] at hch
      simp only [badB, Bool.or_eq_false_iff, decide_eq_false_iff_not] at hb2
      refine ⟨by decide, by decide, by omega, by omega, m - 1, by omega, k + 1, _, yU p o, by omega, by rw [w64 (by omega) (by omega)]; rfl, ?_, by rw [hchk]; exact hch, rfl⟩
      rw [List.length_set]; exact hll
  · have : k = pend.length := by omega
    subst this
    rw [List.drop_length] at hchk
    have hl : l.take per.length = l := List.take_of_length_le (by omega)
    simp only [hl, go_sem, reduceEqDiff, Nat.reduceLT, reduceAdd, reduceSub, reduceLeDiff, reduceReplicate, reduceToNat, bT.C]
    refine ⟨by unfold roomy; omega, ?_⟩
    rw [hchk]
    have : decide (chk [] l o = some vol) = decide (l = vol) := by simp [chk]
    rw [this]; exact aH rfl rfl
def fK.C : aE
  | [.agg [.sl false (.ints .i64 vol), .sl false (.ints .i64 per), .sl false (.pends pend)], .int .i64 at_] => some (false, pD (kP vol per pend) (.bool (mO vol per pend at_)))
  | _ => none
theorem fK.spec : bO Tryz.prog 152 fK.C := by
  refine bO.of (bP (F := [(13, dY.C)]) (S := []) (by simpa using dY.spec) (by simp) fK.loops) fK.at fK.nm fK.bd ?_
  intro vs b S v news e hS
  unfold fK.C at e
  split at e
  rotate_left
  · cases e
  cases e
  rw [fK.eq]
  unfold fK.H
  simp (maxSteps := 4000000) only [go_sem, reduceEqDiff, Nat.reduceLT, reduceAdd, reduceSub, reduceLeDiff, reduceReplicate, reduceToNat, dY.C]
  exact ⟨fun _ => hS, aH rfl rfl⟩
def gM.C : aE
  | [.agg [.sl false (.ints .i64 vol), .sl false (.ints .i64 per), .sl false (.pends pend)], .int .i64 line] => some (false, pD (roomy vol.length) (.int .i64 (oN vol line)))
  | _ => none
theorem gM.spec : bO Tryz.prog 154 gM.C := by
  refine bO.of (bP (F := []) (S := []) (by simp) (by simp) gM.loops) gM.at gM.nm gM.bd ?_
  intro vs b S v news e hS
  unfold gM.C at e
  split at e
  rotate_left
  · cases e
  cases e
  rw [gM.eq]
  unfold gM.H
  simp (maxSteps := 4000000) only [go_sem, reduceEqDiff, Nat.reduceLT, reduceAdd, reduceSub, reduceLeDiff, reduceReplicate, reduceToNat]
  rename_i vol per pend line
  unfold roomy at hS
  have e : IntKind.i64.wrap ((vol.length : Int).tdiv 8) = ((vol.length / 8 : Nat) : Int) := by rw [aMF]; exact w64 (by omega) (by omega)
  rw [e]
  refine ⟨fun _ => by decide, fun hb => ?_, fun hb => ?_⟩
  · unfold oN; rw [if_pos hb]; exact aH rfl rfl
  · have h2 := hb
    rw [Bool.or_eq_false_iff, decide_eq_false_iff_not, decide_eq_false_iff_not] at h2
    rw [w64 (by omega) (by omega)]
    unfold oN; rw [hb]; exact aH rfl rfl
def iC.C : aE
  | [.agg [.sl false (.ints .i64 vol), .sl false (.ints .i64 per), .sl false (.pends pend)], .int .i64 at_, .int .i64 val] => some (false, pD (kP vol per pend ∧ roomy (pend.length + 1)) (putM vol per pend at_ val))
  | _ => none
theorem iC.spec : bO Tryz.prog 148 iC.C := by
  refine bO.of (bP (F := [(152, fK.C), (153, bI.C)]) (S := []) (by simpa using ⟨fK.spec, bI.spec⟩) (by simp) iC.loops) iC.at iC.nm iC.bd ?_
  intro vs b S v news e hS
  unfold iC.C at e
  split at e
  rotate_left
  · cases e
  cases e
  rw [iC.eq]
  unfold iC.H
  simp (maxSteps := 4000000) only [go_sem, reduceEqDiff, Nat.reduceLT, reduceAdd, reduceSub, reduceLeDiff, reduceReplicate, reduceToNat, fK.C, bI.C]
  rename_i vol per pend at_ val
  obtain ⟨hS, hr⟩ := hS
  refine ⟨hS, fun hb => ?_, fun hb => ?_⟩
  · unfold putM; rw [hb]; exact aH rfl rfl
  · have hp : 0 ≤ at_ ∧ at_ < (vol.length : Int) := by
      simp only [mO, Bool.and_eq_true, decide_eq_true_eq] at hb
      exact hb.1
    have e : vol ++ List.take (vol.length - min vol.length vol.length) (List.drop (min vol.length vol.length) (List.replicate vol.length 0)) = vol := by simp
    rw [e]
    have hl : (pend ++ [(⟨at_, val, false⟩ : Pend)]).length = pend.length + 1 := by simp
    rw [hl]
    refine ⟨⟨by omega, by omega, hS.1⟩, hp, by omega, hr, rfl, ?_⟩
    unfold putM
    simp only [hb, if_true]
    refine aH ?_ rfl
    have t1 : (vol.set at_.toNat val).take vol.length = vol.set at_.toNat val := List.take_of_length_le (by simp)
    have t2 : (pend ++ [(⟨at_, val, false⟩ : Pend)]).take (pend.length + 1) = pend ++ [(⟨at_, val, false⟩ : Pend)] := List.take_of_length_le (by simp)
    simp only [go_sem, reduceEqDiff, Nat.reduceLT, reduceAdd, reduceSub, reduceLeDiff, reduceReplicate, reduceToNat, memV, t1, t2]
def fO.I : Con → Con := fun Y args h K => match args with
  | [.fn (.yield l) [] [], a0, a1] => fO.H ((ctx [] [] fO.loops).withY l Y) (.fn (.yield l) [] []) a0 a1 h K
  | _ => False
theorem fO.spec : wI Tryz.prog 159 fO.I := by
  refine wI.of (bP (F := []) (S := []) (by simp) (by simp) fO.loops).toOkI fO.at fO.nm fO.bd ?_
  intro Yc l cap h K hC
  unfold fO.I at hC
  split at hC
  · rename_i e
    simp only [List.cons.injEq, AV.fn.injEq, Fn.yield.injEq, and_true, true_and] at e
    obtain ⟨rfl, rfl⟩ := e
    rw [fO.eq]; exact hC
  · exact hC.elim
def iP.K : Con := fun args h K => match args with
  | [a0, a1] => iP.H (ctx [] [] iP.loops) a0 a1 h K
  | _ => False
theorem iP.spec : cP Tryz.prog 156 iP.K := by
  refine cP.of (bP (F := []) (S := []) (by simp) (by simp) iP.loops) iP.at iP.nm iP.bd ?_
  intro args h K hC
  unfold iP.K at hC
  split at hC
  · rw [iP.eq]; exact hC
  · exact hC.elim
def gB.C : aE
  | [.agg [.sl false (.ints .i64 vol), .sl false (.ints .i64 per), .sl false (.pends pend)], .int .i64 line] => some (false, pD (kP vol per pend) (aAu vol per pend line))
  | _ => none
theorem gB.spec : bO Tryz.prog 149 gB.C := by
  refine bO.of (aIo (F := [(152, fK.C), (154, gM.C), (155, bH.C)]) (S := [(156, iP.K)]) (Is := [(159, fO.I)]) (by simpa using ⟨fK.spec, gM.spec, bH.spec⟩) (by simpa using iP.spec) (by simpa using fO.spec) gB.loops) gB.at gB.nm gB.bd ?_
  intro vs b S v news e hS
  unfold gB.C at e
  split at e
  rotate_left
  · cases e
  cases e
  rw [gB.eq]
  unfold gB.H
  simp (maxSteps := 4000000) only [go_sem, reduceEqDiff, Nat.reduceLT, reduceAdd, reduceSub, reduceLeDiff, reduceReplicate, reduceToNat, fK.C, gM.C, bH.C, iP.K, iP.H, fO.I, fO.H, aA]
  rename_i vol per pend line
  refine ⟨hS.1, hS, fun hb => ?_, fun hb => ⟨hS.2.2, ?_⟩⟩
  · unfold aAu; rw [hb]; exact aH rfl rfl
  intro l r
  obtain ⟨s1, s2, s3⟩ := hS
  unfold roomy at s1 s2 s3
  unfold fO.L1
  refine ⟨fun m lv h' => ∃ k : Nat, k + m = pend.length ∧ lv = [.int .i64 k] ∧ h' = [.box (.agg [.sl false (.ints .i64 vol), .sl false (.ints .i64 per), .sl false (.pends pend)]),
      .box (.agg [.sl false (.ints .i64 []), .sl false (.ints .i64 []), .sl false (.pends [])]), .row .own 0 (.pends (gN line (pend.take k) ++ pend.drop k)), .box (.sref false 2 0 0 pend.length),
      .box (.agg [.sl false (.ints .i64 vol), .sl false (.ints .i64 per), .sl false (.pends pend)]), .box (.int .i64 line), .lp .ready none r],
    ⟨pend.length, 0, by omega, rfl, rfl⟩, ?_⟩
  rintro m h' t9 ⟨k, hk, hlv, rfl⟩
  simp only [List.cons.injEq, and_true] at hlv
  subst hlv
  have hlen : (gN line (pend.take k) ++ pend.drop k).length = pend.length := by simp [gN]; omega
  simp only [go_sem, reduceEqDiff, Nat.reduceLT, reduceAdd, reduceSub, reduceLeDiff, reduceReplicate, reduceToNat, aAV, hlen]
  refine ⟨fun hlt => ?_, fun hge => ?_⟩
  · have hkl : k < pend.length := by omega
    have hget : (gN line (pend.take k) ++ pend.drop k).getD k ⟨0, 0, false⟩ = pend.getD k ⟨0, 0, false⟩ := by
      rw [List.getD_eq_getElem?_getD, List.getElem?_append_right (by simp [gN]; omega)]
      have e : k - (gN line (pend.take k)).length = 0 := by simp [gN]; omega
      rw [e, List.getElem?_drop, Nat.add_zero, List.getD_eq_getElem?_getD]
    have hdrop : pend.drop k = pend.getD k ⟨0, 0, false⟩ :: pend.drop (k + 1) := by
      rw [List.getD_eq_getElem?_getD, List.getElem?_eq_getElem hkl, List.drop_eq_getElem_cons hkl]; rfl
    have hset : ∀ q : Pend, (gN line (pend.take k) ++ pend.drop k).set k q = gN line (pend.take k) ++ q :: pend.drop (k + 1) := by
      intro q
      rw [hdrop, List.set_append_right _ _ (by simp [gN]; omega)]
      have e : k - (gN line (pend.take k)).length = 0 := by simp [gN]; omega
      rw [e]; rfl
    have hnx : gN line (pend.take (k + 1)) = gN line (pend.take k) ++ [if gZ (pend.getD k ⟨0, 0, false⟩).at_ = line then { pend.getD k ⟨0, 0, false⟩ with fl := true } else pend.getD k ⟨0, 0, false⟩] := by
      rw [iG pend k ⟨0, 0, false⟩ hkl]
      simp [gN]
    rw [aA]
    simp only [nW, hget, hset]
    refine ⟨by omega, by decide, fun hc => ?_, fun hc => ?_⟩
    · have hc : gZ (pend.getD k ⟨0, 0, false⟩).at_ = line := by simpa [gZ] using hc
      simp only [go_sem, reduceEqDiff, Nat.reduceLT, reduceAdd, reduceSub, reduceLeDiff, reduceReplicate, reduceToNat]
      refine ⟨⟨by omega, by omega⟩, hkl, m - 1, by omega, k + 1, by omega, by rw [w64 (by omega) (by omega)]; rfl, ?_⟩
      rw [hnx, if_pos hc, List.append_assoc]; rfl
    · have hc : ¬ gZ (pend.getD k ⟨0, 0, false⟩).at_ = line := by simpa [gZ] using hc
      simp only [go_sem, reduceEqDiff, Nat.reduceLT, reduceAdd, reduceSub, reduceLeDiff, reduceReplicate, reduceToNat]
      refine ⟨m - 1, by omega, k + 1, by omega, by rw [w64 (by omega) (by omega)]; rfl, ?_⟩
      rw [hnx, if_neg hc, List.append_assoc, hdrop]; rfl
  · have : k = pend.length := by omega
    subst this
    rw [List.take_length, List.drop_length, List.append_nil] at hlen
    have e : gN line (pend.take pend.length) ++ pend.drop pend.length = gN line pend := by rw [List.take_length, List.drop_length, List.append_nil]
    rw [e]
    unfold aAu
    simp only [hb, if_true]
    refine aH ?_ rfl
    have t1 : (gN line pend).take pend.length = gN line pend := List.take_of_length_le (by omega)
    simp only [go_sem, reduceEqDiff, Nat.reduceLT, reduceAdd, reduceSub, reduceLeDiff, reduceReplicate, reduceToNat, memV, t1]
def eL.C : aE
  | [.agg [.int .i64 a, .int .i64 v, .bool f]] => some (false, pD True (.bool f))
  | _ => none
theorem eL.spec : bO Tryz.prog 158 eL.C := by
  refine bO.of (bP (F := []) (S := []) (by simp) (by simp) eL.loops) eL.at eL.nm eL.bd ?_
  intro vs b S v news e hS
  unfold eL.C at e
  split at e
  rotate_left
  · cases e
  cases e
  rw [eL.eq]
  unfold eL.H
  simp (maxSteps := 4000000) only [go_sem, reduceEqDiff, Nat.reduceLT, reduceAdd, reduceSub, reduceLeDiff, reduceReplicate, reduceToNat]
  exact aH rfl rfl
def fN.K : Con := fun args h K => match args with
  | [a0, a1] => fN.H (ctx [(34, aX.C), (158, eL.C)] [] fN.loops) a0 a1 h K
  | _ => False
theorem fN.spec : cP Tryz.prog 157 fN.K := by
  refine cP.of (bP (F := [(34, aX.C), (158, eL.C)]) (S := []) (by simpa using ⟨aX.spec, eL.spec⟩) (by simp) fN.loops) fN.at fN.nm fN.bd ?_
  intro args h K hC
  unfold fN.K at hC
  split at hC
  · rw [fN.eq]; exact hC
  · exact hC.elim

def gC.C : aE
  | [.agg [.sl false (.ints .i64 vol), .sl false (.ints .i64 per), .sl false (.pends pend)]] => some (false, pD (kP vol per pend) (aDk fFl (nA vol per pend) vol per pend))
  | _ => none
theorem gC.spec : bO Tryz.prog 150 gC.C := by
  refine bO.of (bP (F := [(13, dY.C)]) (S := [(157, fN.K)]) (by simpa using dY.spec) (by simpa using fN.spec) gC.loops) gC.at gC.nm gC.bd ?_
  intro vs b S v news e hS
  unfold gC.C at e
  split at e
  rotate_left
  · cases e
  cases e
  rw [gC.eq]
  unfold gC.H
  simp (maxSteps := 4000000) only [go_sem, reduceEqDiff, Nat.reduceLT, reduceAdd, reduceSub, reduceLeDiff, reduceReplicate, reduceToNat, dY.C, fN.K, fN.H, aX.C]
  rename_i vol per pend
  refine ⟨hS, fun hb => ?_, fun hb => ⟨hS.2.1, ?_⟩⟩
  · unfold aDk; rw [hb]; exact aH rfl rfl
  obtain ⟨s1, s2, s3⟩ := hS
  unfold roomy at s1 s2 s3
  have hrange := aHA hb
  rw [aA]
  unfold fN.L1
  refine ⟨fun m lv h' => ∃ k v : Nat, k + m = pend.length ∧ lv = [.int .i64 k] ∧ h' = [.box (.agg [.sl false (.ints .i64 vol), .sl false (.ints .i64 per), .sl false (.pends pend)]), .box (.agg [.sl false (.ints .i64 []), .sl false (.ints .i64 []), .sl false (.pends [])]), .box (.agg [.sl false (.ints .i64 vol), .sl false (.ints .i64 per), .sl false (.pends pend)]), .box (.agg [.sl false (.ints .i64 []), .sl false (.ints .i64 []), .sl false (.pends [])]), .row .own 0 (.ints .i64 (lG fFl (pend.take k) per)), .box (.agg [.sl false (.ints .i64 vol), .sref false 4 0 0 per.length, .sref false 6 v 0 (lZ fFl (pend.take k)).length]), .row .own v (.pends (lZ fFl (pend.take k)))],
    ⟨pend.length, 0, 0, by omega, rfl, rfl⟩, ?_⟩
  rintro m h' t17 ⟨k, v, hk, hlv, rfl⟩
  simp only [List.cons.injEq, and_true] at hlv
  subst hlv
  have hwl : (lG fFl (pend.take k) per).length = per.length := aAv _ _ _
  have hpl : (lZ fFl (pend.take k)).length ≤ k := Nat.le_trans (List.length_filter_le _ _) (by simp; omega)
  simp only [go_sem, reduceEqDiff, Nat.reduceLT, reduceAdd, reduceSub, reduceLeDiff, reduceReplicate, reduceToNat, aAV, hwl, eL.C]
  refine ⟨fun hlt => ?_, fun hge => ?_⟩
  · have hkl : k < pend.length := by omega
    have hr := hrange _ (kB pend k ⟨0, 0, false⟩ hkl)
    have hW := aDj fFl (pend.getD k ⟨0, 0, false⟩) (pend.take k) per
    have hP := aJe fFl (pend.getD k ⟨0, 0, false⟩) (pend.take k)
    rw [← iG pend k ⟨0, 0, false⟩ hkl] at hW hP
    generalize pend.getD k ⟨0, 0, false⟩ = p at *
    try rw [aA]
    refine ⟨by omega, fun hc => ?_, fun hc => ?_⟩
    · have hc : fFl p = true := hc
      rw [hc] at hW hP
      simp only [go_sem, reduceEqDiff, Nat.reduceLT, reduceAdd, reduceSub, reduceLeDiff, reduceReplicate, reduceToNat]
      refine ⟨hr, by omega, m - 1, by omega, k + 1, v, by omega, by rw [w64 (by omega) (by omega)]; rfl, ?_⟩
      rw [hW, hP]
    · have hc : fFl p = false := hc
      rw [hc] at hW hP
      simp only [go_sem, reduceEqDiff, Nat.reduceLT, reduceAdd, reduceSub, reduceLeDiff, reduceReplicate, reduceToNat]
      refine ⟨by unfold roomy; simp; omega, m - 1, by omega, k + 1, v + 1, by omega, by rw [w64 (by omega) (by omega)]; rfl, ?_⟩
      rw [hW, hP]
  · have : k = pend.length := by omega
    subst this
    rw [List.take_length] at hwl hpl ⊢
    have t1 : (lG fFl pend per).take per.length = lG fFl pend per := List.take_of_length_le (by omega)
    have t2 : (lZ fFl pend).take (lZ fFl pend).length = lZ fFl pend := List.take_length
    unfold aDk
    simp only [hb, if_true, go_sem, reduceEqDiff, Nat.reduceLT, reduceAdd, reduceSub, reduceLeDiff, reduceReplicate, reduceToNat]
    refine aH ?_ rfl
    simp only [go_sem, reduceEqDiff, Nat.reduceLT, reduceAdd, reduceSub, reduceLeDiff, reduceReplicate, reduceToNat, memV, t1, t2]

end Lam
namespace Lam
open Go Go.Proofs
def fD.C : aE
  | [.int .i64 n] => some (false, pD True (.bool (lt1 n)))
  | _ => none
theorem fD.spec : bO Tryz.prog 103 fD.C := by
  refine bO.of (bP (F := []) (S := []) (by simp) (by simp) fD.loops) fD.at fD.nm fD.bd ?_
  intro vs b S v news e hS
  unfold fD.C at e
  split at e
  rotate_left
  · cases e
  cases e
  rw [fD.eq]
  unfold fD.H
  simp (maxSteps := 4000000) only [go_sem, reduceEqDiff, Nat.reduceLT, reduceAdd, reduceSub, reduceLeDiff, reduceReplicate, reduceToNat]
  exact aH rfl rfl
def eX.C : aE
  | [.int .i64 n] => some (false, pD True (.bool (rE n)))
  | _ => none
theorem eX.spec : bO Tryz.prog 105 eX.C := by
  refine bO.of (bP (F := []) (S := []) (by simp) (by simp) eX.loops) eX.at eX.nm eX.bd ?_
  intro vs b S v news e hS
  unfold eX.C at e
  split at e
  rotate_left
  · cases e
  cases e
  rw [eX.eq]
  unfold eX.H
  simp (maxSteps := 4000000) only [go_sem, reduceEqDiff, Nat.reduceLT, reduceAdd, reduceSub, reduceLeDiff, reduceReplicate, reduceToNat]
  exact aH rfl rfl
def fE.C : aE
  | [.int .i64 n] => some (false, pD True (.bool (vE n)))
  | _ => none
theorem fE.spec : bO Tryz.prog 107 fE.C := by
  refine bO.of (bP (F := [(105, eX.C)]) (S := []) (by simpa using eX.spec) (by simp) fE.loops) fE.at fE.nm fE.bd ?_
  intro vs b S v news e hS
  unfold fE.C at e
  split at e
  rotate_left
  · cases e
  cases e
  rw [fE.eq]
  unfold fE.H
  simp (maxSteps := 4000000) only [go_sem, reduceEqDiff, Nat.reduceLT, reduceAdd, reduceSub, reduceLeDiff, reduceReplicate, reduceToNat, eX.C]
  exact aH rfl rfl
theorem aGA (c : Ctx) (hd : c.drawn = false) (f : FuncId) (p : Int → Bool) (hf : ∀ n, c.envF f [.int .i64 n] = some (false, pD True (.bool (p n)))) (x : Bool) (l : List Int) (hr : roomy l.length) :
    bM.H c (.sl x (.ints .i64 l)) (.fn (.func f) [] []) [] (Post false (.int .i64 (idxI p l)) []) := by
  unfold roomy at hr
  unfold bM.H
  simp only [go_sem, reduceEqDiff, Nat.reduceLT, reduceAdd, reduceSub, reduceLeDiff, reduceReplicate, reduceToNat]
  rw [aA]
  unfold bM.L1
  refine lP (σ := Nat) (fun k => .int .i64 k) (fun k => []) (fun k => l.length - k) (fun k => k ≤ l.length ∧ ∀ y ∈ l.take k, p y = false) 0 rfl rfl ⟨Nat.zero_le _, by simp⟩ ?_
  rintro I back k ⟨hk, hall⟩
  simp only [hf, hd, go_sem, reduceEqDiff, Nat.reduceLT, reduceAdd, reduceSub, reduceLeDiff, reduceReplicate, reduceToNat]
  refine ⟨fun hlt => ⟨by omega, fun h => ?_, fun h => ?_⟩, fun hge => ?_⟩
  · have hkl : k < l.length := by omega
    have h1 : l.any p = true := List.any_eq_true.2 ⟨_, kB l k 0 hkl, h⟩
    have h2 : l.findIdx p = k := by
      rw [List.findIdx_eq hkl]
      refine ⟨by rw [List.getD_eq_getElem?_getD, List.getElem?_eq_getElem hkl] at h; exact h, fun j hj => ?_⟩
      have := hall l[j] (List.mem_take_iff_getElem.2 ⟨j, by omega, rfl⟩)
      simpa using this
    unfold idxI; rw [if_pos h1, h2]
    exact aH rfl rfl
  · refine back (k + 1) (by omega) (by rw [fA (by omega)]) rfl ⟨by omega, fun y hy => ?_⟩
    rw [iG l k 0 (by omega), List.mem_append, List.mem_singleton] at hy
    rcases hy with hy | rfl
    · exact hall y hy
    · exact h
  · obtain rfl : k = l.length := by omega
    rw [List.take_length] at hall
    have h1 : ¬ l.any p = true := by
      rw [List.any_eq_true]; rintro ⟨y, hy, hp⟩; rw [hall y hy] at hp; cases hp
    unfold idxI; rw [if_neg h1]
    exact aH rfl rfl
def aDs (f : Nat) : Option (Int → Bool) :=
  if f = 103 then some lt1 else
  if f = 107 then some vE else
  none
@[go_sem] theorem aYv : aDs 103 = some lt1 := rfl
@[go_sem] theorem aYw : aDs 107 = some vE := rfl
def bM.C : aE
  | [.sl _ (.ints .i64 l), .fn (.func f) [] []] => match aDs f with
    | some p => some (false, pD (roomy l.length) (.int .i64 (idxI p l)))
    | none => none
  | _ => none
theorem bM.spec : bO Tryz.prog 102 bM.C := by
  refine bO.of (bP (F := [(103, fD.C), (107, fE.C)]) (S := []) (by simpa using ⟨fD.spec, fE.spec⟩) (by simp) bM.loops) bM.at bM.nm bM.bd ?_
  intro vs b S v news e hS
  unfold bM.C at e
  split at e
  rotate_left
  · cases e
  rw [bM.eq]
  rename_i x l f
  split at e
  rotate_left
  · cases e
  rename_i p hp
  cases e
  refine aGA _ rfl f p (fun n => ?_) x l hS
  unfold aDs at hp
  simp only [aLZ]
  repeat' split at hp
  all_goals first | (rename_i h; subst h; cases hp; rfl) | cases hp
def bU.C : aE
  | [.sl _ (.ints .i64 l), .fn (.func f) [] []] => match aDs f with
    | some p => some (false, pD (roomy l.length) (.bool (l.any p)))
    | none => none
  | _ => none
theorem bU.spec : bO Tryz.prog 106 bU.C := by
  refine bO.of (bP (F := [(102, bM.C)]) (S := []) (by simpa using bM.spec) (by simp) bU.loops) bU.at bU.nm bU.bd ?_
  intro vs b S v news e hS
  unfold bU.C at e
  split at e
  rotate_left
  · cases e
  rw [bU.eq]
  rename_i x l f
  split at e
  rotate_left
  · cases e
  rename_i p hp
  cases e
  unfold bU.H
  simp only [bM.C, hp, go_sem, reduceEqDiff, Nat.reduceLT, reduceAdd, reduceSub, reduceLeDiff, reduceReplicate, reduceToNat]
  refine ⟨hS, ?_⟩
  have : decide (0 ≤ idxI p l) = l.any p := by
    unfold idxI
    cases h : l.any p
    · rfl
    · rw [if_pos rfl]; exact decide_eq_true (by omega)
  rw [this]; exact aH rfl rfl
end Lam
namespace Lam
open Go Go.Proofs
theorem aOk {l : List Int} {v : Int} {k : Nat} (hk : k < l.length) (h : v = l.getD k 0) (hall : ∀ y ∈ l.take k, (decide (v = y)) = false) : idxI (fun y => decide (v = y)) l = k := by
  have h1 : l.any (fun y => decide (v = y)) = true := List.any_eq_true.2 ⟨_, kB l k 0 hk, decide_eq_true h⟩
  have h2 : l.findIdx (fun y => decide (v = y)) = k := by
    rw [List.findIdx_eq hk]
    refine ⟨by rw [List.getD_eq_getElem?_getD, List.getElem?_eq_getElem hk] at h; exact decide_eq_true h, fun j hj => ?_⟩
    exact hall l[j] (List.mem_take_iff_getElem.2 ⟨j, by omega, rfl⟩)
  unfold idxI; rw [if_pos h1, h2]
theorem aGB {l : List Int} {v : Int} (h : v ∉ l) : idxI (fun y => decide (v = y)) l = -1 := by
  unfold idxI
  rw [if_neg]
  rw [List.any_eq_true]
  rintro ⟨y, hy, hp⟩
  have := of_decide_eq_true hp
  subst this; exact h hy
def bZ.C : aE
  | [.sl _ (.ints .i64 l), .int .i64 v] => some (false, pD (roomy l.length) (.int .i64 (idxI (fun y => decide (v = y)) l)))
  | _ => none
theorem bZ.spec : bO Tryz.prog 104 bZ.C := by
  refine bO.of (bP (F := []) (S := []) (by simp) (by simp) bZ.loops) bZ.at bZ.nm bZ.bd ?_
  intro vs b S v news e hS
  unfold bZ.C at e
  split at e
  rotate_left
  · cases e
  cases e
  rw [bZ.eq]
  unfold bZ.H
  simp (maxSteps := 4000000) only [go_sem, reduceEqDiff, Nat.reduceLT, reduceAdd, reduceSub, reduceLeDiff, reduceReplicate, reduceToNat]
  rename_i _ l v
  have hr := hS
  unfold roomy at hr
  rw [aA]
  unfold bZ.L1
  refine lP (σ := Nat) (fun k => .int .i64 k) (fun k => []) (fun k => l.length - k) (fun k => k ≤ l.length ∧ ∀ y ∈ l.take k, decide (v = y) = false) 0 rfl rfl ⟨Nat.zero_le _, by simp⟩ ?_
  rintro I back k ⟨hk, hall⟩
  simp only [go_sem, reduceEqDiff, Nat.reduceLT, reduceAdd, reduceSub, reduceLeDiff, reduceReplicate, reduceToNat]
  refine ⟨fun hlt => ⟨by omega, fun h => ?_, fun h => ?_⟩, fun hge => ?_⟩
  · rw [← aOk (by omega) h hall]
    exact aH rfl rfl
  · refine back (k + 1) (by omega) (by rw [fA (by omega)]) rfl ⟨by omega, fun y hy => ?_⟩
    rw [iG l k 0 (by omega), List.mem_append, List.mem_singleton] at hy
    rcases hy with hy | rfl
    · exact hall y hy
    · exact decide_eq_false h
  · obtain rfl : k = l.length := by omega
    rw [List.take_length] at hall
    rw [aGB (fun hm => by have := hall v hm; simp at this)]
    exact aH rfl rfl
def bY.C : aE
  | [.sl _ (.ints .i64 l), .int .i64 v] => some (false, pD (roomy l.length) (.bool (decide (v ∈ l))))
  | _ => none
theorem bY.spec : bO Tryz.prog 83 bY.C := by
  refine bO.of (bP (F := [(104, bZ.C)]) (S := []) (by simpa using bZ.spec) (by simp) bY.loops) bY.at bY.nm bY.bd ?_
  intro vs b S v news e hS
  unfold bY.C at e
  split at e
  rotate_left
  · cases e
  cases e
  rw [bY.eq]
  unfold bY.H
  simp (maxSteps := 4000000) only [go_sem, reduceEqDiff, Nat.reduceLT, reduceAdd, reduceSub, reduceLeDiff, reduceReplicate, reduceToNat, bZ.C]
  rename_i _ l v
  refine ⟨hS, ?_⟩
  have : decide (0 ≤ idxI (fun y => decide (v = y)) l) = decide (v ∈ l) := by
    by_cases h : v ∈ l
    · rw [decide_eq_true h]
      unfold idxI
      rw [if_pos (List.any_eq_true.2 ⟨v, h, decide_eq_true rfl⟩)]
      exact decide_eq_true (by omega)
    · rw [aGB h, decide_eq_false h]; rfl
  rw [this]
  exact aH rfl rfl
end Lam
namespace Lam
open Go Go.Proofs
def iK.loops : Nat → bV
 | 4 => ⟨[4, 10], [false, false], [3, 8, 9], [], [], []⟩
 | _ => ⟨[], [], [], [], [], []⟩
def iK.L1 (c : Ctx) (J1 : AV → List AObj → Prop) (K : AOut → List AObj → Prop) (lv : List AV) (h0 : List AObj) (n0 : Nat) (c3 : AV) (c8 : AV) (c9 : AV) : Prop :=
 ∃ I : Nat → List AV → List AObj → Prop, (∃ n, I n lv h0) ∧ ∀ n h, ∀ t4, ∀ t10, I n [t4, t10] h →
 runD (binD aB .lss t10 c9) h fun t11 h =>
 bF t11
 (runD (aG aK h c8 t10) h fun t12 h =>
 runD (fitD aB (aD h t12)) h fun t13 h =>
 aS false c (.fn (.func 112) [] []) [c3, t4, t13] h (fun t16 h =>
 runD (binD aB .add t10 (.int .i64 1)) h fun t17 h =>
 (∃ m, m < n ∧ I m (AV.norms n0 h [t16, t17]) (cI n0 h)) ∧ AV.norms n0 h [c3, c8, c9] = [c3, c8, c9])
 (fun v h => K (.pan v) h))
 (J1 t4 h)
def iK.H (c : Ctx) (t0 : AV) (h : List AObj) (K : AOut → List AObj → Prop) : Prop :=
 aS false c (.fn (.func 111) [] []) [] h (fun t7 h =>
 cT jQ h fun t3 h =>
 runH (aR jQ h t3 t7) h fun _ h =>
 runD (lenD aK h t0) h fun t9 h =>
 aL (fun (J1 : AV → List AObj → Prop) =>
 dP [false, false] [(.int .u32 4294967295), (.int .i64 0)] h fun lv h => iK.L1 c J1 K (AV.norms h.length h lv) (cI h.length h) h.length (AV.norm h.length h t3) (AV.norm h.length h t0) (AV.norm h.length h t9))
 (fun t4 h => runD (unD .xor t4) h fun t19 h =>
 runD (jG h kF aB t19) h fun t20 h =>
 K (.ret t20) h))
 (fun v h => K (.pan v) h)
def eB.loops : Nat → bV
 | 2 => ⟨[3], [false], [0], [], [], []⟩
 | 6 => ⟨[2, 8], [false, false], [0, 1, 3], [], [], []⟩
 | _ => ⟨[], [], [], [], [], []⟩
def eB.L2 (c : Ctx) (J3 : AV → AV → AV → AV → List AObj → Prop) (K : AOut → List AObj → Prop) (lv : List AV) (h0 : List AObj) (n0 : Nat) (c0 : AV) (c1 : AV) (c3 : AV) : Prop :=
 ∃ I : Nat → List AV → List AObj → Prop, (∃ n, I n lv h0) ∧ ∀ n h, ∀ t2, ∀ t8, I n [t2, t8] h →
 runD (binD aB .lss t8 (.int .i64 8)) h fun t9 h =>
 bF t9
 (runD (binD kF .shr t2 (.int .u64 1)) h fun t11 h =>
 runD (binD kF .and t2 (.int .u32 1)) h fun t13 h =>
 runD (unD .neg t13) h fun t14 h =>
 runD (binD kF .and (.int .u32 3988292384) t14) h fun t15 h =>
 runD (binD kF .xor t11 t15) h fun t16 h =>
 runD (binD aB .add t8 (.int .i64 1)) h fun t17 h =>
 (∃ m, m < n ∧ I m (AV.norms n0 h [t16, t17]) (cI n0 h)) ∧ AV.norms n0 h [c0, c1, c3] = [c0, c1, c3])
 (J3 c0 c1 t2 c3 h)
def eB.L1 (c : Ctx) (J1 : AV → List AObj → Prop) (K : AOut → List AObj → Prop) (lv : List AV) (h0 : List AObj) (n0 : Nat) (c0 : AV) : Prop :=
 ∃ I : Nat → List AV → List AObj → Prop, (∃ n, I n lv h0) ∧ ∀ n h, ∀ t3, I n [t3] h →
 runD (binD aB .lss t3 (.int .i64 256)) h fun t4 h =>
 bF t4
 (aL (fun (J2 : AV → AV → List AObj → Prop) =>
 runD (jG h aB kF t3) h fun t7 h =>
 aL (fun (J3 : AV → AV → AV → AV → List AObj → Prop) =>
 dP [false, false] [t7, (.int .i64 0)] h fun lv h => eB.L2 c J3 K (AV.norms h.length h lv) (cI h.length h) h.length (AV.norm h.length h c0) (AV.norm h.length h t3) (AV.norm h.length h t3))
 (fun t0 t1 t2 t3 h => runD (aG jQ h t0 t1) h fun t20 h =>
 runH (aR kF h t20 t2) h fun _ h =>
 J2 t0 t3 h))
 (fun t0 t3 h => runD (binD aB .add t3 (.int .i64 1)) h fun t21 h =>
 (∃ m, m < n ∧ I m (AV.norms n0 h [t21]) (cI n0 h)) ∧ AV.norms n0 h [t0] = [c0]))
 (J1 c0 h)
def eB.H (c : Ctx) (h : List AObj) (K : AOut → List AObj → Prop) : Prop :=
 cT jQ h fun t0 h =>
 aL (fun (J1 : AV → List AObj → Prop) =>
 dP [false] [(.int .i64 0)] h fun lv h => eB.L1 c J1 K (AV.norms h.length h lv) (cI h.length h) h.length (AV.norm h.length h t0))
 (fun t0 h => runD (fitD jQ (aD h t0)) h fun t22 h =>
 runH (aR jQ h t0 t22) h fun _ h =>
 cZ (fitD jQ (aD h t0)) fun r0 => K (.ret r0) h)
def gG.loops : Nat → bV
 | 2 => ⟨[1, 7], [false, false], [0, 2], [], [], []⟩
 | _ => ⟨[], [], [], [], [], []⟩
def gG.L1 (c : Ctx) (J1 : AV → List AObj → Prop) (K : AOut → List AObj → Prop) (lv : List AV) (h0 : List AObj) (n0 : Nat) (c0 : AV) (c2 : AV) : Prop :=
 ∃ I : Nat → List AV → List AObj → Prop, (∃ n, I n lv h0) ∧ ∀ n h, ∀ t1, ∀ t7, I n [t1, t7] h →
 runD (binD aB .geq t7 (.int .i64 0)) h fun t9 h =>
 bF t9
 (runD (jG h aB lJ c2) h fun t15 h =>
 runD (binD lJ .shr t15 t7) h fun t17 h =>
 runD (jG h lJ lT t17) h fun t18 h =>
 aS false c (.fn (.func 122) [] []) [c0, t1, t18] h (fun t19 h =>
 runD (binD aB .sub t7 (.int .i64 8)) h fun t11 h =>
 (∃ m, m < n ∧ I m (AV.norms n0 h [t19, t11]) (cI n0 h)) ∧ AV.norms n0 h [c0, c2] = [c0, c2])
 (fun v h => K (.pan v) h))
 (J1 t1 h)
def gG.H (c : Ctx) (t0 : AV) (t1 : AV) (t2 : AV) (h : List AObj) (K : AOut → List AObj → Prop) : Prop :=
 aL (fun (J1 : AV → List AObj → Prop) =>
 dP [false, false] [t1, (.int .i64 56)] h fun lv h => gG.L1 c J1 K (AV.norms h.length h lv) (cI h.length h) h.length (AV.norm h.length h t0) (AV.norm h.length h t2))
 (fun t1 h => K (.ret t1) h)
def gS.loops : Nat → bV
 | _ => ⟨[], [], [], [], [], []⟩
def gS.H (c : Ctx) (t0 : AV) (t1 : AV) (t2 : AV) (h : List AObj) (K : AOut → List AObj → Prop) : Prop :=
 runD (binD kF .shr t1 (.int .u64 8)) h fun t8 h =>
 runD (jG h kF lT t1) h fun t11 h =>
 runD (binD lT .xor t11 t2) h fun t13 h =>
 runD (bK t0) h fun t14 h =>
 runD (aG jQ h t14 t13) h fun t15 h =>
 runD (fitD kF (aD h t15)) h fun t16 h =>
 runD (binD kF .xor t8 t16) h fun t17 h =>
 K (.ret t17) h
theorem iK.eq (F : List (FuncId × aE)) (S : List (FuncId × Con)) (t0 : AV) (h : List AObj) (K : AOut → List AObj → Prop) : funW (ctx F S iK.loops) Tryz.f93 [t0] h K = iK.H (ctx F S iK.loops) t0 h K := by kernel_rfl
theorem eB.eq (F : List (FuncId × aE)) (S : List (FuncId × Con)) (h : List AObj) (K : AOut → List AObj → Prop) : funW (ctx F S eB.loops) Tryz.f111 [] h K = eB.H (ctx F S eB.loops)  h K := by kernel_rfl
theorem gG.eq (F : List (FuncId × aE)) (S : List (FuncId × Con)) (t0 t1 t2 : AV) (h : List AObj) (K : AOut → List AObj → Prop) : funW (ctx F S gG.loops) Tryz.f112 [t0, t1, t2] h K = gG.H (ctx F S gG.loops) t0 t1 t2 h K := by kernel_rfl
theorem gS.eq (F : List (FuncId × aE)) (S : List (FuncId × Con)) (t0 t1 t2 : AV) (h : List AObj) (K : AOut → List AObj → Prop) : funW (ctx F S gS.loops) Tryz.f122 [t0, t1, t2] h K = gS.H (ctx F S gS.loops) t0 t1 t2 h K := by kernel_rfl
theorem iK.at : Tryz.prog.funcs[93]? = some Tryz.f93 := by kernel_rfl
theorem iK.nm : (Tryz.f93.name == "runtime.NumGoroutine") = false := by kernel_rfl
theorem iK.bd : Tryz.f93.body.isNone = false := by kernel_rfl
theorem eB.at : Tryz.prog.funcs[111]? = some Tryz.f111 := by kernel_rfl
theorem eB.nm : (Tryz.f111.name == "runtime.NumGoroutine") = false := by kernel_rfl
theorem eB.bd : Tryz.f111.body.isNone = false := by kernel_rfl
theorem gG.at : Tryz.prog.funcs[112]? = some Tryz.f112 := by kernel_rfl
theorem gG.nm : (Tryz.f112.name == "runtime.NumGoroutine") = false := by kernel_rfl
theorem gG.bd : Tryz.f112.body.isNone = false := by kernel_rfl
theorem gS.at : Tryz.prog.funcs[122]? = some Tryz.f122 := by kernel_rfl
theorem gS.nm : (Tryz.f122.name == "runtime.NumGoroutine") = false := by kernel_rfl
theorem gS.bd : Tryz.f122.body.isNone = false := by kernel_rfl
end Lam
namespace Lam
open Go Go.Proofs
theorem aGC (c t3 : Int) (xs : List Int) (h : List AObj) (J : AV → AV → AV → AV → List AObj → Prop) (K : AOut → List AObj → Prop) (hh : h = [AObj.row .arr 0 (.ints .u32 xs)])
    (hJ : J (.ptr 0 []) (.int .i64 t3) (.int .u32 (bitN 8 c)) (.int .i64 t3) h) :
    eB.L2 (ctx [] [] eB.loops) J K [.int .u32 c, .int .i64 0] h 1 (.ptr 0 []) (.int .i64 t3) (.int .i64 t3) := by
  unfold eB.L2
  refine ⟨fun n lv h' => ∃ k : Nat, k + n = 8 ∧ lv = [.int .u32 (bitN k c), .int .i64 k] ∧ h' = h, ⟨8, 0, rfl, rfl, rfl⟩, ?_⟩
  rintro n h' t2 t8 ⟨k, hk, hlv, rfl⟩
  simp only [List.cons.injEq, and_true] at hlv
  obtain ⟨rfl, rfl⟩ := hlv
  subst hh
  simp only [go_sem, Nat.reduceLT]
  refine ⟨fun hlt => ⟨by decide, n - 1, by omega, k + 1, by omega, ?_⟩, fun hge => ?_⟩
  · rw [w64 (by omega) (by omega)]
    rfl
  · have : k = 8 := by omega
    subst this; exact hJ

theorem aGD (J : AV → List AObj → Prop) (K : AOut → List AObj → Prop) (hJ : J (.ptr 0 []) [AObj.row .arr 0 (.ints .u32 tabL)]) :
    eB.L1 (ctx [] [] eB.loops) J K [.int .i64 0] [AObj.row .arr 0 (.ints .u32 (List.replicate 256 0))] 1 (.ptr 0 []) := by
  unfold eB.L1
  refine ⟨fun n lv h' => ∃ k : Nat, k + n = 256 ∧ lv = [.int .i64 k] ∧ h' = [AObj.row .arr 0 (.ints .u32 ((List.range k).map tabE ++ List.replicate n 0))], ⟨256, 0, rfl, rfl, rfl⟩, ?_⟩
  rintro n h' t3 ⟨k, hk, hlv, rfl⟩
  simp only [List.cons.injEq, and_true] at hlv
  subst hlv
  simp only [go_sem, Nat.reduceLT]
  refine ⟨fun hlt => ?_, fun hge => ?_⟩
  · simp only [aA]
    apply aGC _ _ _ _ _ _ rfl
    have hlen : ((List.range k).map tabE ++ List.replicate n 0).length = 256 := by simp; omega
    simp only [go_sem, Nat.reduceLT, hlen, Int.toNat_natCast]
    refine ⟨by omega, by omega, n - 1, by omega, k + 1, by omega, ?_, ?_⟩
    · rw [w64 (by omega) (by omega)]; rfl
    · obtain ⟨m, rfl⟩ : ∃ m, n = m + 1 := ⟨n - 1, by omega⟩
      simp [List.range_succ, List.replicate_succ, tabE]
  · have hn : n = 0 := by omega
    have hk : k = 256 := by omega
    subst hn hk
    simpa [tabL] using hJ

theorem aGE : eB.H (ctx [] [] eB.loops) [] (Post false (.arr (.ints .u32 tabL)) []) := by
  unfold eB.H
  simp only [go_sem, Nat.reduceLT]
  simp only [aA]
  apply aGD
  have : tabL.length = 256 := by simp [tabL]
  simp only [go_sem, this]
  exact aH rfl rfl

def eB.C : aE
  | [] => some (false, pD True (.arr (.ints .u32 tabL)))
  | _ => none
theorem eB.spec : bO Tryz.prog 111 eB.C := by
  refine bO.of (bP (F := []) (S := []) (by simp) (by simp) eB.loops) eB.at eB.nm eB.bd ?_
  intro vs b S v news e hS
  unfold eB.C at e
  split at e
  rotate_left
  · cases e
  rw [eB.eq]
  cases e
  exact aGE
def gS.K : Con := fun args h K => match args with
  | [a0, a1, a2] => gS.H (ctx [] [] gS.loops) a0 a1 a2 h K
  | _ => False
theorem gS.spec : cP Tryz.prog 122 gS.K := by
  refine cP.of (bP (F := []) (S := []) (by simp) (by simp) gS.loops) gS.at gS.nm gS.bd ?_
  intro args h K hC
  unfold gS.K at hC
  split at hC
  · rw [gS.eq]; exact hC
  · exact hC.elim
theorem aHH (t : List Int) (ht : t.length = 256) (c b : Int) (h : List AObj) (K : AOut → List AObj → Prop) (id : Nat) (hid : h[id]? = some (.row .arr 0 (.ints .u32 t))) (hK : K (.ret (.int .u32 (aMK t c b))) h) :
    gS.K [.ptr id [], .int .u32 c, .int .u8 b] h K := by
  unfold gS.K
  simp only
  unfold gS.H
  simp only [go_sem, hid, ht]
  have hr : 0 ≤ xorI .u8 (IntKind.u8.wrap c) b ∧ xorI .u8 (IntKind.u8.wrap c) b < 256 := aGo _
  exact ⟨by decide, hr, (Int.toNat_lt hr.1).2 hr.2, hK⟩

def gG.K : Con := fun args h K => match args with
  | [a0, a1, a2] => gG.H (ctx [] [(122, gS.K)] gG.loops) a0 a1 a2 h K
  | _ => False
theorem gG.spec : cP Tryz.prog 112 gG.K := by
  refine cP.of (bP (F := []) (S := [(122, gS.K)]) (by simp) (by simpa using gS.spec) gG.loops) gG.at gG.nm gG.bd ?_
  intro args h K hC
  unfold gG.K at hC
  split at hC
  · rw [gG.eq]; exact hC
  · exact hC.elim
theorem aHI (t : List Int) (ht : t.length = 256) (c w : Int) (h : List AObj) (K : AOut → List AObj → Prop) (hh : h = [.row .arr 0 (.ints .u32 t)]) (hK : K (.ret (.int .u32 (aJp t c w))) h) :
    gG.K [.ptr 0 [], .int .u32 c, .int .i64 w] h K := by
  unfold gG.K
  simp only
  unfold gG.H
  subst hh
  simp only [aA, go_sem, Nat.reduceLT]
  unfold gG.L1
  refine ⟨fun n lv h' => ∃ k : Nat, k + n = 8 ∧ lv = [.int .u32 (aFw t w k c), .int .i64 (56 - 8 * k)] ∧ h' = [.row .arr 0 (.ints .u32 t)], ⟨8, 0, rfl, rfl, rfl⟩, ?_⟩
  rintro n h' t1 t7 ⟨k, hk, hlv, rfl⟩
  simp only [List.cons.injEq, and_true] at hlv
  obtain ⟨rfl, rfl⟩ := hlv
  simp only [go_sem, Nat.reduceLT, reduceEqDiff]
  refine ⟨fun hlt => ?_, fun hge => ?_⟩
  · refine ⟨hlt, ?_⟩
    apply aHH t ht _ _ _ _ _ rfl
    simp only [go_sem, Nat.reduceLT]
    refine ⟨n - 1, by omega, k + 1, by omega, ?_⟩
    rw [w64 (by omega) (by omega)]
    simp only [aFw]
    congr 3
    omega
  · have : k = 8 := by omega
    subst this; exact hK

def iK.C : aE
  | [.sl _ (.ints .i64 l)] => some (false, pD (roomy l.length) (.int .i64 (aBi l)))
  | _ => none
theorem iK.spec : bO Tryz.prog 93 iK.C := by
  refine bO.of (bP (F := [(111, eB.C)]) (S := [(112, gG.K)]) (by simpa using eB.spec) (by simpa using gG.spec) iK.loops) iK.at iK.nm iK.bd ?_
  intro vs b S v news e hS
  unfold iK.C at e
  split at e
  rotate_left
  · cases e
  rw [iK.eq]
  rename_i x l
  cases e
  unfold roomy at hS
  unfold iK.H
  have htl : tabL.length = 256 := aLU
  simp only [go_sem, reduceEqDiff, Nat.reduceLT, eB.C, htl, List.length_replicate, aA]
  unfold iK.L1
  refine ⟨fun n lv h' => ∃ k : Nat, k + n = l.length ∧ lv = [.int .u32 ((l.take k).foldl (aJp tabL) 4294967295), .int .i64 k] ∧ h' = [.row .arr 0 (.ints .u32 tabL)], ⟨l.length, 0, by omega, rfl, rfl⟩, ?_⟩
  rintro n h' t4 t10 ⟨k, hk, hlv, rfl⟩
  simp only [List.cons.injEq, and_true] at hlv
  obtain ⟨rfl, rfl⟩ := hlv
  simp only [go_sem, Nat.reduceLT, reduceEqDiff]
  refine ⟨fun hlt => ?_, fun hge => ?_⟩
  · refine ⟨by omega, ?_⟩
    apply aHI tabL htl _ _ _ _ rfl
    simp only [go_sem, Nat.reduceLT]
    refine ⟨n - 1, by omega, k + 1, by omega, ?_⟩
    rw [w64 (by omega) (by omega)]
    have hkl : k < l.length := by omega
    have : l.take (k + 1) = l.take k ++ [l.getD k 0] := by
      rw [List.take_add_one, List.getElem?_eq_getElem hkl, List.getD_eq_getElem?_getD, List.getElem?_eq_getElem hkl]; rfl
    rw [this, List.foldl_append]
    rfl
  · have : k = l.length := by omega
    subst this
    rw [List.take_length]
    exact aH rfl rfl
end Lam
namespace Lam
open Go Go.Proofs
def gR.C : aE
  | [.sl _ (.ints .i64 l)] => some (false, pD (roomy l.length) (newM l))
  | _ => none
theorem gR.spec : bO Tryz.prog 28 gR.C := by
  refine bO.of (bP (F := [(33, fJ.C), (34, aX.C)]) (S := []) (by simpa using ⟨fJ.spec, aX.spec⟩) (by simp) gR.loops) gR.at gR.nm gR.bd ?_
  intro vs b S v news e hS
  unfold gR.C at e
  split at e
  rotate_left
  · cases e
  cases e
  rw [gR.eq]
  unfold gR.H
  simp (maxSteps := 4000000) only [go_sem, reduceEqDiff, Nat.reduceLT, reduceAdd, reduceSub, reduceLeDiff, reduceReplicate, reduceToNat, fJ.C, aX.C]
  rename_i l
  unfold roomy at hS
  refine ⟨fun hb => ?_, fun hb => ?_⟩
  · unfold newM; rw [hb]; exact aH rfl rfl
  · refine ⟨hS, hS, ?_⟩
    unfold newM; simp only [hb, if_true]
    refine aH ?_ rfl
    simp only [go_sem, reduceEqDiff, Nat.reduceLT, reduceAdd, reduceSub, reduceLeDiff, reduceReplicate, reduceToNat, memV, List.take_length]
end Lam
