/- What functions of the program come to, each proved from its code. -/
import Derived.Test.YtmbmfnmjjelmkabGreatLm3
import Derived.Attr
import Derived.KernelRfl
import Derived.Test.YtmbmfnmjjelmkabGreatProg
import Derived.WideLaws
set_option linter.unusedVariables false
set_option linter.unusedSimpArgs false
set_option linter.unnecessarySimpa false
set_option linter.unusedSectionVars false
open Nat (reduceEqDiff reduceAdd reduceSub reduceLeDiff)
open Int (reduceToNat reduceEq reduceLE reduceLT)
open List (reduceReplicate)
set_option maxRecDepth 20000
namespace Lam
open Go
@[go_sem] theorem aVn (f : FuncId) (vs : List AV) : mQ [] f vs = none := (rfl)
@[go_sem] theorem aVo (f : FuncId) (Y : Con) (a : List AV) (h : List AObj) (K' : AOut → List AObj → Prop) : qL [] f Y a h K' = False := (rfl)
@[go_sem] theorem aRV (f g : FuncId) (C : Con → Con) (r : List (FuncId × (Con → Con))) : qL ((g, C) :: r) f = if f = g then C else qL r f := by
  by_cases h : f = g
  · subst h; simp [qL]
  · have : Nat.beq f g = false := by rw [Bool.eq_false_iff]; intro e; exact h (Nat.eq_of_beq_eq_true e)
    simp [qL, this, h]
@[go_sem] theorem aRW (g f : FuncId) (C : aE) (r : List (FuncId × aE)) : mQ ((g, C) :: r) f = if f = g then C else mQ r f := by
  by_cases h : f = g
  · subst h; simp [mQ]
  · have : Nat.beq f g = false := by rw [Bool.eq_false_iff]; intro e; exact h (Nat.eq_of_beq_eq_true e)
    simp [mQ, this, h]
@[go_sem] theorem aVp (f : FuncId) (vs : List AV) (h : List AObj) (K : AOut → List AObj → Prop) : oJ [] f vs h K = False := (rfl)
@[go_sem] theorem aRX (g f : FuncId) (C : Con) (r : List (FuncId × Con)) : oJ ((g, C) :: r) f = if f = g then C else oJ r f := by
  by_cases h : f = g
  · subst h; simp [oJ]
  · have : Nat.beq f g = false := by rw [Bool.eq_false_iff]; intro e; exact h (Nat.eq_of_beq_eq_true e)
    simp [oJ, this, h]
theorem w64 {n : Int} (h1 : -9223372036854775808 ≤ n) (h2 : n < 9223372036854775808) : IntKind.i64.wrap n = n := by rw [IntKind.wrap_i64]; omega
theorem aGk (n : Int) : 0 ≤ IntKind.u8.wrap n ∧ IntKind.u8.wrap n < 256 := by simp [IntKind.wrap, IntKind.bits, IntKind.signed]; omega
theorem aKr (n : Int) : 0 ≤ IntKind.u64.wrap n ∧ IntKind.u64.wrap n < 18446744073709551616 := by simp [IntKind.wrap, IntKind.bits, IntKind.signed]; omega
theorem aAp {n : Int} (h1 : 0 ≤ n) (h2 : n < 18446744073709551616) : IntKind.u64.wrap n = n := by simp [IntKind.wrap, IntKind.bits, IntKind.signed]; omega
abbrev J2 := AV → AV → List AObj → Prop
@[congr] theorem aPn {α : Type} {A A' : α → Prop} {k : α} (e : ∀ J, A J = A' J) : aL A k = aL A' k := by unfold aL; exact e k
theorem aA {α : Type} (A : α → Prop) (k : α) : aL A k = A k := (rfl)
section
variable (p q : Bool) (S : Prop) (h : List AObj) (F : AV → List AObj → Prop)
@[go_sem] theorem aYe : aL (fun J : J2 => bF (.bool p) true (J (.bool true) (.bool q) h) (J (.bool false) .und h)) (fun t v h' => runD (bT t v (.bool false)) h' F) = F (.bool (p && q)) h := by
  cases p <;> simp [aL, bF, bT, pD, runD]
@[go_sem] theorem aRY : aL (fun J : J2 => bF (.bool p) true (S ∧ J (.bool true) (.bool q) h) (J (.bool false) .und h)) (fun t v h' => runD (bT t v (.bool false)) h' F) = ((p = true → S) ∧ F (.bool (p && q)) h) := by
  cases p <;> simp [aL, bF, bT, pD, runD]
@[go_sem] theorem aZl : aL (fun J : J2 => bF (.bool p) false (J (.bool false) (.bool q) h) (J (.bool true) .und h)) (fun t v h' => runD (bT t (.bool true) v) h' F) = F (.bool (p || q)) h := by
  cases p <;> simp [aL, bF, bT, pD, runD]
@[go_sem] theorem aVq : aL (fun J : J2 => bF (.bool p) false (S ∧ J (.bool false) (.bool q) h) (J (.bool true) .und h)) (fun t v h' => runD (bT t (.bool true) v) h' F) = ((p = false → S) ∧ F (.bool (p || q)) h) := by
  cases p <;> simp [aL, bF, bT, pD, runD]
variable (S2 S3 S4 S5 : Prop)
@[go_sem] theorem aPo : aL (fun J : J2 => bF (.bool p) true (S ∧ S2 ∧ J (.bool true) (.bool q) h) (J (.bool false) .und h)) (fun t v h' => runD (bT t v (.bool false)) h' F) = ((p = true → S ∧ S2) ∧ F (.bool (p && q)) h) := by
  cases p <;> simp [aL, bF, bT, pD, runD, and_assoc]
@[go_sem] theorem aRZ : aL (fun J : J2 => bF (.bool p) false (S ∧ S2 ∧ J (.bool false) (.bool q) h) (J (.bool true) .und h)) (fun t v h' => runD (bT t (.bool true) v) h' F) = ((p = false → S ∧ S2) ∧ F (.bool (p || q)) h) := by
  cases p <;> simp [aL, bF, bT, pD, runD, and_assoc]
@[go_sem] theorem aPp : aL (fun J : J2 => bF (.bool p) true (S ∧ S2 ∧ S3 ∧ J (.bool true) (.bool q) h) (J (.bool false) .und h)) (fun t v h' => runD (bT t v (.bool false)) h' F) = ((p = true → S ∧ S2 ∧ S3) ∧ F (.bool (p && q)) h) := by
  cases p <;> simp [aL, bF, bT, pD, runD, and_assoc]
@[go_sem] theorem aSa : aL (fun J : J2 => bF (.bool p) false (S ∧ S2 ∧ S3 ∧ J (.bool false) (.bool q) h) (J (.bool true) .und h)) (fun t v h' => runD (bT t (.bool true) v) h' F) = ((p = false → S ∧ S2 ∧ S3) ∧ F (.bool (p || q)) h) := by
  cases p <;> simp [aL, bF, bT, pD, runD, and_assoc]
@[go_sem] theorem aPq : aL (fun J : J2 => bF (.bool p) true (S ∧ S2 ∧ S3 ∧ S4 ∧ J (.bool true) (.bool q) h) (J (.bool false) .und h)) (fun t v h' => runD (bT t v (.bool false)) h' F) = ((p = true → S ∧ S2 ∧ S3 ∧ S4) ∧ F (.bool (p && q)) h) := by
  cases p <;> simp [aL, bF, bT, pD, runD, and_assoc]
@[go_sem] theorem aSb : aL (fun J : J2 => bF (.bool p) false (S ∧ S2 ∧ S3 ∧ S4 ∧ J (.bool false) (.bool q) h) (J (.bool true) .und h)) (fun t v h' => runD (bT t (.bool true) v) h' F) = ((p = false → S ∧ S2 ∧ S3 ∧ S4) ∧ F (.bool (p || q)) h) := by
  cases p <;> simp [aL, bF, bT, pD, runD, and_assoc]
@[go_sem] theorem aPr : aL (fun J : J2 => bF (.bool p) true (S ∧ S2 ∧ S3 ∧ S4 ∧ S5 ∧ J (.bool true) (.bool q) h) (J (.bool false) .und h)) (fun t v h' => runD (bT t v (.bool false)) h' F) = ((p = true → S ∧ S2 ∧ S3 ∧ S4 ∧ S5) ∧ F (.bool (p && q)) h) := by
  cases p <;> simp [aL, bF, bT, pD, runD, and_assoc]
@[go_sem] theorem aSc : aL (fun J : J2 => bF (.bool p) false (S ∧ S2 ∧ S3 ∧ S4 ∧ S5 ∧ J (.bool false) (.bool q) h) (J (.bool true) .und h)) (fun t v h' => runD (bT t (.bool true) v) h' F) = ((p = false → S ∧ S2 ∧ S3 ∧ S4 ∧ S5) ∧ F (.bool (p || q)) h) := by
  cases p <;> simp [aL, bF, bT, pD, runD, and_assoc]
end
theorem iH {α : Type} (l : List α) (k : Nat) (d : α) (h : k < l.length) : l.take (k + 1) = l.take k ++ [l.getD k d] := by
  rw [List.take_add_one, List.getD_eq_getElem?_getD, List.getElem?_eq_getElem h]; rfl
theorem lJ {α : Type} (l : List α) (k : Nat) (d : α) (h : k < l.length) : l.getD k d ∈ l := by
  rw [List.getD_eq_getElem?_getD, List.getElem?_eq_getElem h]; exact List.getElem_mem h
theorem aNQ (n : Nat) : (n : Int).tdiv 16 = ((n / 16 : Nat) : Int) := rfl
theorem aMu (n : Nat) : (n : Int).tdiv 8 = ((n / 8 : Nat) : Int) := rfl
attribute [go_sem] Bool.true_or Bool.false_or Bool.or_false Bool.or_true Bool.and_false Bool.false_and beq_self_eq_true
theorem aSd {n : Int} (h : (Lit.int .i64 n).wf = true) : -9223372036854775808 ≤ n ∧ n < 9223372036854775808 := by
  simp [Lit.wf, IntKind.min, IntKind.max, IntKind.signed, IntKind.bits] at h; omega
end Lam
namespace Lam
open Go
section
variable {σ : Type}
abbrev LB := Nat → List AV → List AObj → Prop
theorem lF {B : LB → Nat → List AObj → AV → Prop} {lv : List AV} {h0 : List AObj} (V0 : σ → AV) (H : σ → List AObj) (M : σ → Nat) (Q : σ → Prop) (s0 : σ) (hv : lv = [V0 s0]) (hh : h0 = H s0) (q0 : Q s0)
    (step : ∀ (I : LB), (∀ {n : Nat} {lv : List AV} {h : List AObj} (s : σ), M s < n → lv = [V0 s] → h = H s → Q s → ∃ m, m < n ∧ I m lv h) → ∀ s, Q s → B I (M s) (H s) (V0 s)) : ∃ I : LB, (∃ n, I n lv h0) ∧ ∀ n h, ∀ t0, I n [t0] h → B I n h t0 := by
  refine ⟨fun m lv h => ∃ s, m = M s ∧ lv = [V0 s] ∧ h = H s ∧ Q s, ⟨_, s0, rfl, hv, hh, q0⟩, ?_⟩
  rintro n h t0 ⟨s, rfl, e, rfl, q⟩
  cases e
  exact step _ (fun s hm hv hh q => ⟨_, hm, s, rfl, hv, hh, q⟩) s q
theorem pP {B : LB → Nat → List AObj → AV → AV → Prop} {lv : List AV} {h0 : List AObj} (V0 V1 : σ → AV) (H : σ → List AObj) (M : σ → Nat) (Q : σ → Prop) (s0 : σ) (hv : lv = [V0 s0, V1 s0]) (hh : h0 = H s0) (q0 : Q s0)
    (step : ∀ (I : LB), (∀ {n : Nat} {lv : List AV} {h : List AObj} (s : σ), M s < n → lv = [V0 s, V1 s] → h = H s → Q s → ∃ m, m < n ∧ I m lv h) → ∀ s, Q s → B I (M s) (H s) (V0 s) (V1 s)) : ∃ I : LB, (∃ n, I n lv h0) ∧ ∀ n h, ∀ t0 t1, I n [t0, t1] h → B I n h t0 t1 := by
  refine ⟨fun m lv h => ∃ s, m = M s ∧ lv = [V0 s, V1 s] ∧ h = H s ∧ Q s, ⟨_, s0, rfl, hv, hh, q0⟩, ?_⟩
  rintro n h t0 t1 ⟨s, rfl, e, rfl, q⟩
  cases e
  exact step _ (fun s hm hv hh q => ⟨_, hm, s, rfl, hv, hh, q⟩) s q
theorem aSe {B : LB → Nat → List AObj → AV → AV → AV → AV → AV → Prop} {lv : List AV} {h0 : List AObj} (V0 V1 V2 V3 V4 : σ → AV) (H : σ → List AObj) (M : σ → Nat) (Q : σ → Prop) (s0 : σ) (hv : lv = [V0 s0, V1 s0, V2 s0, V3 s0, V4 s0]) (hh : h0 = H s0) (q0 : Q s0)
    (step : ∀ (I : LB), (∀ {n : Nat} {lv : List AV} {h : List AObj} (s : σ), M s < n → lv = [V0 s, V1 s, V2 s, V3 s, V4 s] → h = H s → Q s → ∃ m, m < n ∧ I m lv h) → ∀ s, Q s → B I (M s) (H s) (V0 s) (V1 s) (V2 s) (V3 s) (V4 s)) : ∃ I : LB, (∃ n, I n lv h0) ∧ ∀ n h, ∀ t0 t1 t2 t3 t4, I n [t0, t1, t2, t3, t4] h → B I n h t0 t1 t2 t3 t4 := by
  refine ⟨fun m lv h => ∃ s, m = M s ∧ lv = [V0 s, V1 s, V2 s, V3 s, V4 s] ∧ h = H s ∧ Q s, ⟨_, s0, rfl, hv, hh, q0⟩, ?_⟩
  rintro n h t0 t1 t2 t3 t4 ⟨s, rfl, e, rfl, q⟩
  cases e
  exact step _ (fun s hm hv hh q => ⟨_, hm, s, rfl, hv, hh, q⟩) s q
end
section
variable {A B : Prop}
theorem aLz : bF (.bool true) true A B = A := by simp [oF]
theorem aGl : bF (.bool true) false A B = B := by simp [oF]
theorem aLA : bF (.bool false) true A B = B := by simp [oF]
theorem aLB : bF (.bool false) false A B = A := by simp [oF]
end
theorem eS {k : Nat} (h : k < 4611686018427387904) : IntKind.i64.wrap ((k : Int) + 1) = ((k + 1 : Nat) : Int) := by rw [w64 (by omega) (by omega)]; rfl
theorem wJ {α : Type} (l : List α) (k : Nat) (d : α) (h : k < l.length) : l.drop k = l.getD k d :: l.drop (k + 1) := by
  rw [List.drop_eq_getElem_cons h, List.getD_eq_getElem?_getD, List.getElem?_eq_getElem h]; rfl
theorem aBm {α : Type} (a b : List α) (k : Nat) (d : α) (h : a.length ≤ k) : (a ++ b).getD k d = b.getD (k - a.length) d := by
  rw [List.getD_eq_getElem?_getD, List.getElem?_append_right h, List.getD_eq_getElem?_getD]
theorem qU {α : Type} (l : List α) {n : Nat} (h : l.length ≤ n) : l.take n = l := List.take_of_length_le h
theorem aSf {α : Type} (d : α) {a b : List α} (hl : a.length = b.length) (h : ∀ i, i < a.length → a.getD i d = b.getD i d) : a = b := by
  apply List.ext_getElem hl
  intro i h1 h2
  have := h i h1
  rw [List.getD_eq_getElem?_getD, List.getD_eq_getElem?_getD, List.getElem?_eq_getElem h1, List.getElem?_eq_getElem h2] at this
  exact this
theorem oW {α : Type} {A : α → Prop} {k : α} (h : ∀ k', k' = k → aL A k') : aL A k := h k rfl
theorem gq : (∀ A B : Prop, bF (.bool true) true A B = A) ∧ (∀ A B : Prop, bF (.bool true) false A B = B) ∧ (∀ A B : Prop, bF (.bool false) true A B = B) ∧ (∀ A B : Prop, bF (.bool false) false A B = A) ∧
    (∀ h : Decidable False, @decide False h = false) ∧ (∀ h : Decidable True, @decide True h = true) ∧ ((!false) = true) ∧ ((!true) = false) ∧ (∀ b : Bool, (!!b) = b) ∧ ((¬ True) = False) ∧ ((¬ False) = True) ∧ (∀ p : Prop, (True → p) = p) ∧ (∀ p : Prop, (False → p) = True) ∧
    (∀ p : Prop, (p ∧ True) = p) ∧ (∀ p : Prop, (True ∧ p) = p) ∧ (∀ b : Bool, (b && b) = b) ∧ (∀ b : Bool, (b || b) = b) ∧ (∀ b : Bool, (b && true) = b) ∧ (∀ b : Bool, (true && b) = b) ∧ ((false = true) = False) :=
  ⟨fun _ _ => aLz, fun _ _ => aGl, fun _ _ => aLA, fun _ _ => aLB, decide_false, decide_true, Bool.not_false, Bool.not_true, Bool.not_not, not_true_eq_false, not_false_eq_true, fun _ => true_implies _, fun _ => false_implies _, and_true, true_and, Bool.and_self, Bool.or_self, Bool.and_true, Bool.true_and, Bool.false_eq_true⟩
end Lam
namespace Lam
open Go
/-! ### Memories -/
def memV (vol per : List Int) (pend : List Pend) : AV := .agg [.sl false (.ints .i64 vol), .sl false (.ints .i64 per), .sl false (.pends pend)]
attribute [go_sem] memV
def hX (at_ : Int) : Int := IntKind.i64.wrap (at_.tdiv 8)
def szB (n : Int) : Bool := decide (n ≤ 4096) && decide (n.tmod 8 = 0)

def badB (p : Pend) (n : Nat) (o : Int → Bool) : Bool := decide (p.at_ < 0) || decide ((n : Int) ≤ p.at_) || (p.fl && o (hX p.at_))
def yU (p : Pend) (o : Int → Bool) : Int → Bool := fun j => if j = hX p.at_ then (o (hX p.at_) || !p.fl) else o j
def chk : List Pend → List Int → (Int → Bool) → Option (List Int)
  | [], l, _ => some l
  | p :: r, l, o => match badB p l.length o with
    | true => none
    | false => chk r (l.set p.at_.toNat p.val) (yU p o)
def nG (vol per : List Int) (pend : List Pend) : Bool := decide (vol.length = per.length) && szB vol.length && decide (chk pend per (fun _ => false) = some vol)
def kP (vol per : List Int) (pend : List Pend) : Prop := roomy vol.length ∧ roomy per.length ∧ roomy pend.length
def mS (vol per : List Int) (pend : List Pend) (at_ : Int) : Bool := decide (0 ≤ at_) && decide (at_ < (vol.length : Int)) && nG vol per pend
def oX (vol : List Int) (line : Int) : Int := if decide (line < 0) || decide (((vol.length / 8 : Nat) : Int) ≤ line) then -1 else line * 8
def putM (vol per : List Int) (pend : List Pend) (at_ val : Int) : AV :=
  .tup [memV (if mS vol per pend at_ = true then vol.set at_.toNat val else vol) per (if mS vol per pend at_ = true then pend ++ [⟨at_, val, false⟩] else pend), .int .i64 (if mS vol per pend at_ = true then 0 else 40)]
def gQ (line : Int) (pend : List Pend) : List Pend := pend.map fun p => if hX p.at_ = line then { p with fl := true } else p
def aAq (vol per : List Int) (pend : List Pend) (line : Int) : AV :=
  .tup [memV vol per (if mS vol per pend (oX vol line) = true then gQ line pend else pend), .int .i64 (if mS vol per pend (oX vol line) = true then 0 else 40)]
def lG (f : Pend → Bool) : List Pend → List Int → List Int
  | [], per => per
  | p :: r, per => lG f r (match f p with | true => per.set p.at_.toNat p.val | false => per)
def mC (f : Pend → Bool) (pend : List Pend) : List Pend := pend.filter fun p => !f p
theorem aAr (f : Pend → Bool) : ∀ (l : List Pend) (per : List Int), (lG f l per).length = per.length
  | [], per => rfl
  | p :: r, per => by
    simp only [lG]
    rw [aAr f r]
    split <;> simp
theorem aDg (f : Pend → Bool) (p : Pend) : ∀ (l : List Pend) (per : List Int), lG f (l ++ [p]) per = match f p with | true => (lG f l per).set p.at_.toNat p.val | false => lG f l per
  | [], per => by simp only [List.nil_append, lG]
  | q :: r, per => by simp only [List.cons_append, lG]; exact aDg f p r _
theorem aIW (f : Pend → Bool) (p : Pend) (l : List Pend) : mC f (l ++ [p]) = match f p with | true => mC f l | false => mC f l ++ [p] := by
  unfold mC
  rw [List.filter_append]
  cases h : f p <;> simp [h]
theorem aED : ∀ (l : List Pend) (w : List Int) (o : Int → Bool) {v : List Int}, chk l w o = some v → (∀ p ∈ l, 0 ≤ p.at_ ∧ p.at_ < (w.length : Int)) ∧ v.length = w.length
  | [], w, o, v, h => by simp only [chk, Option.some.injEq] at h; subst h; exact ⟨fun p hp => (by cases hp), rfl⟩
  | p :: r, w, o, v, h => by
    simp only [chk] at h
    split at h
    · cases h
    · rename_i hb
      obtain ⟨c1, c2⟩ := aED r _ _ h
      rw [List.length_set] at c1 c2
      refine ⟨fun q hq => ?_, c2⟩
      rcases List.mem_cons.1 hq with rfl | hq
      · simp only [badB, Bool.or_eq_false_iff, decide_eq_false_iff_not] at hb
        omega
      · exact c1 q hq
theorem aBz {vol per : List Int} {pend : List Pend} (h : nG vol per pend = true) : vol.length = per.length ∧ szB vol.length = true ∧ chk pend per (fun _ => false) = some vol := by
  simp only [nG, Bool.and_eq_true, decide_eq_true_eq] at h
  exact ⟨h.1.1, h.1.2, h.2⟩
theorem aHw {vol per : List Int} {pend : List Pend} (h : nG vol per pend = true) : ∀ p ∈ pend, 0 ≤ p.at_ ∧ p.at_ < (per.length : Int) := (aED _ _ _ (aBz h).2.2).1
def fFl (p : Pend) : Bool := p.fl
def fLn (line : Int) (p : Pend) : Bool := decide (hX p.at_ = line)
def aDh (f : Pend → Bool) (ok : Bool) (vol per : List Int) (pend : List Pend) : AV :=
  .tup [memV vol (if ok = true then lG f pend per else per) (if ok = true then mC f pend else pend), .int .i64 (if ok = true then 0 else 40)]
theorem aKs {a : Int} (h0 : 0 ≤ a) (h1 : a ≤ 1099511627776) : hX a = a / 8 := by
  unfold hX
  rw [Int.tdiv_eq_ediv_of_nonneg h0]
  exact w64 (by omega) (by omega)

theorem aLC {a b : List Int} (hl : a.length = b.length) (h : ∀ i, i < a.length → a.getD i 0 = b.getD i 0) : a = b := by
  apply List.ext_getElem hl
  intro i h1 h2
  have := h i h1
  rw [List.getD_eq_getElem?_getD, List.getD_eq_getElem?_getD, List.getElem?_eq_getElem h1, List.getElem?_eq_getElem h2] at this
  exact this
theorem aCb (l : List Int) (i j : Nat) (v : Int) : (l.set i v).getD j 0 = if i = j ∧ i < l.length then v else l.getD j 0 := by
  rw [List.getD_eq_getElem?_getD, List.getElem?_set, List.getD_eq_getElem?_getD]
  by_cases h : i = j
  · subst h
    by_cases h2 : i < l.length
    · simp [h2]
    · simp [h2]
  · simp [h]

def app : List Pend → List Int → List Int
  | [], w => w
  | p :: r, w => app r (w.set p.at_.toNat p.val)
theorem rC : ∀ (l : List Pend) (w : List Int), (app l w).length = w.length
  | [], w => rfl
  | p :: r, w => by rw [app, rC r, List.length_set]
theorem yV : ∀ (l r : List Pend) (w : List Int), app (l ++ r) w = app r (app l w)
  | [], r, w => rfl
  | p :: l, r, w => by rw [List.cons_append, app, yV l, app]
theorem aAs (f : Pend → Bool) : ∀ (l : List Pend) (w : List Int), lG f l w = app (l.filter f) w
  | [], w => rfl
  | p :: r, w => by
    simp only [lG]
    rw [aAs f r]
    cases h : f p <;> simp [h, app]

def seen (a : Nat) : List Pend → Int → Int
  | [], d => d
  | p :: r, d => seen a r (if p.at_.toNat = a then p.val else d)
theorem aBA (a : Nat) : ∀ (l r : List Pend) (d : Int), seen a (l ++ r) d = seen a r (seen a l d)
  | [], r, d => rfl
  | p :: l, r, d => by rw [List.cons_append, seen, aBA a l, seen]
theorem vQ : ∀ (l : List Pend) (w : List Int) (a : Nat), a < w.length → (app l w).getD a 0 = seen a l (w.getD a 0)
  | [], w, a, h => rfl
  | p :: r, w, a, h => by
    rw [app, vQ r _ a (by rw [List.length_set]; exact h), seen, aCb]
    congr 1
    by_cases e : p.at_.toNat = a
    · simp [e, h]
    · simp [e]
theorem aEE (a : Nat) : ∀ (l : List Pend) (d : Int), (∀ p ∈ l, p.at_.toNat ≠ a) → seen a l d = d
  | [], d, h => rfl
  | p :: r, d, h => by
    rw [seen, if_neg (h p (by simp)), aEE a r d fun q hq => h q (by simp [hq])]
theorem aBB (a : Nat) (f : Pend → Bool) : ∀ (l : List Pend) (d : Int), (∀ p ∈ l, p.at_.toNat = a → f p = true) → seen a (l.filter f) d = seen a l d
  | [], d, h => rfl
  | p :: r, d, h => by
    have ih := fun d => aBB a f r d fun q hq => h q (by simp [hq])
    cases hf : f p with
    | true => rw [List.filter_cons_of_pos hf, seen, seen, ih]
    | false =>
      rw [List.filter_cons_of_neg (by simp [hf]), ih, seen]
      have : ¬ p.at_.toNat = a := fun e => by have := h p (by simp) e; rw [hf] at this; cases this
      rw [if_neg this]
theorem aHY (a : Nat) (l : List Pend) (d : Int) : seen a (l.filter fun p => decide (p.at_.toNat = a)) d = seen a l d := aBB a _ l d fun p _ h => by simp [h]

theorem aAt {f : Pend → Bool} : ∀ {l : List Pend}, l.Pairwise (fun p q => f q = true → f p = true) → l.filter f ++ l.filter (fun p => !f p) = l
  | [], _ => rfl
  | p :: r, h => by
    rw [List.pairwise_cons] at h
    cases hf : f p with
    | true => rw [List.filter_cons_of_pos hf, List.filter_cons_of_neg (by simp [hf]), List.cons_append, aAt h.2]
    | false =>
      have hn : ∀ q ∈ r, f q = false := fun q hq => by
        cases e : f q with
        | false => rfl
        | true => rw [h.1 q hq e] at hf; cases hf
      rw [List.filter_cons_of_neg (by simp [hf]), List.filter_cons_of_pos (by simp [hf])]
      have e1 : r.filter f = [] := List.filter_eq_nil_iff.2 fun q hq => by simp [hn q hq]
      have e2 : r.filter (fun p => !f p) = r := List.filter_eq_self.2 fun q hq => by simp [hn q hq]
      rw [e1, e2]; rfl
def oY (f : Pend → Bool) (l : List Pend) : Prop := l.Pairwise fun p q => hX p.at_ = hX q.at_ → f q = true → f p = true
theorem aIX {p q : Pend} (hp : 0 ≤ p.at_) (hq : 0 ≤ q.at_) (h : p.at_.toNat = q.at_.toNat) : hX p.at_ = hX q.at_ := by
  have : p.at_ = q.at_ := by omega
  rw [this]
theorem aIY {f : Pend → Bool} {l : List Pend} (h0 : ∀ p ∈ l, 0 ≤ p.at_) (h : oY f l) (a : Nat) (d : Int) : seen a (l.filter fun p => !f p) (seen a (l.filter f) d) = seen a l d := by
  rw [← aBA, ← aHY a (_ ++ _), ← aHY a l]
  congr 1
  rw [List.filter_append, List.filter_filter, List.filter_filter]
  have hp : (l.filter fun p => decide (p.at_.toNat = a)).Pairwise fun p q => f q = true → f p = true := by
    refine (List.Pairwise.and_mem.1 (List.Pairwise.filter _ h)).imp ?_
    rintro p q ⟨hp, hq, hpq⟩ hf
    rw [List.mem_filter, decide_eq_true_eq] at hp hq
    exact hpq (aIX (h0 p hp.1) (h0 q hq.1) (by omega)) hf
  have := aAt hp
  rw [List.filter_filter, List.filter_filter] at this
  simpa [Bool.and_comm] using this

structure OkM (vol per : List Int) (pend : List Pend) : Prop where
  len : vol.length = per.length
  sz : vol.length ≤ 4096
  md : vol.length % 8 = 0
  rng : ∀ p ∈ pend, 0 ≤ p.at_ ∧ p.at_ < (per.length : Int)
  ord : oY (fun p => p.fl) pend
  eq : app pend per = vol

theorem aDS : ∀ (l : List Pend) (w v : List Int) (o : Int → Bool), chk l w o = some v ↔ (∀ p ∈ l, 0 ≤ p.at_ ∧ p.at_ < (w.length : Int)) ∧ oY (fun p => p.fl) l ∧ app l w = v ∧ ∀ q ∈ l, o (hX q.at_) = true → q.fl = false
  | [], w, v, o => by simp [chk, oY, app]
  | p :: r, w, v, o => by
    simp only [chk]
    cases hb : badB p w.length o with
    | true =>
      simp only [reduceCtorEq, false_iff]
      rintro ⟨h1, h2, h3, h4⟩
      have := h1 p (by simp)
      simp only [badB, Bool.or_eq_true, decide_eq_true_eq, Bool.and_eq_true] at hb
      rcases hb with (hb | hb) | hb
      · omega
      · omega
      · have := h4 p (by simp) hb.2
        rw [hb.1] at this; cases this
    | false =>
      simp only
      rw [aDS r _ v (yU p o), List.length_set]
      simp only [badB, Bool.or_eq_false_iff, decide_eq_false_iff_not, Bool.and_eq_false_iff] at hb
      simp only [List.forall_mem_cons, oY, List.pairwise_cons, app]
      constructor
      · rintro ⟨h1, h2, h3, h4⟩
        refine ⟨⟨by omega, h1⟩, ⟨fun q hq hl hf => ?_, h2⟩, h3, fun ho => ?_, fun q hq ho => ?_⟩
        · cases e : p.fl with
          | true => rfl
          | false =>
            have := h4 q hq (by unfold yU; rw [if_pos hl.symm]; simp [e])
            rw [hf] at this; cases this
        · rcases hb.2 with h | h
          · exact h
          · rw [ho] at h; cases h
        · apply h4 q hq
          unfold yU
          split
          · rename_i e; rw [← e, ho]; rfl
          · exact ho
      · rintro ⟨⟨h0, h1⟩, ⟨h5, h2⟩, h3, h6, h4⟩
        refine ⟨h1, h2, h3, fun q hq ho => ?_⟩
        unfold yU at ho
        split at ho
        · rename_i e
          rw [Bool.or_eq_true] at ho
          rcases ho with ho | ho
          · exact h4 q hq (by rw [e]; exact ho)
          · cases e2 : q.fl with
            | false => rfl
            | true =>
              have := h5 q hq e.symm e2
              rw [this] at ho; cases ho
        · exact h4 q hq ho

theorem aAu {vol per : List Int} {pend : List Pend} : nG vol per pend = true ↔ OkM vol per pend := by
  constructor
  · intro h
    obtain ⟨h1, h2, h3⟩ := aBz h
    rw [aDS] at h3
    simp only [szB, Bool.and_eq_true, decide_eq_true_eq] at h2
    refine ⟨h1, by omega, ?_, h3.1, h3.2.1, h3.2.2.1⟩
    have := h2.2
    rw [Int.tmod_eq_emod_of_nonneg (by omega)] at this
    omega
  · intro h
    have h3 : chk pend per (fun _ => false) = some vol := by
      rw [aDS]
      exact ⟨h.rng, h.ord, h.eq, fun q _ hq => by cases hq⟩
    have hsz := h.sz
    have hmd := h.md
    simp only [nG, Bool.and_eq_true, decide_eq_true_eq, szB]
    refine ⟨⟨h.len, by omega, ?_⟩, h3⟩
    rw [Int.tmod_eq_emod_of_nonneg (by omega)]
    omega

theorem OkM.vol_at {vol per : List Int} {pend : List Pend} (h : OkM vol per pend) {a : Nat} (ha : a < per.length) : vol.getD a 0 = seen a pend (per.getD a 0) := by
  rw [← h.eq, vQ pend per a ha]

theorem OkM.put {vol per : List Int} {pend : List Pend} (h : OkM vol per pend) {a v : Int} (h0 : 0 ≤ a) (h1 : a < (vol.length : Int)) : OkM (vol.set a.toNat v) per (pend ++ [⟨a, v, false⟩]) := by
  refine ⟨by rw [List.length_set]; exact h.len, by rw [List.length_set]; exact h.sz, by rw [List.length_set]; exact h.md, fun p hp => ?_, ?_, ?_⟩
  · rcases List.mem_append.1 hp with hp | hp
    · exact h.rng p hp
    · rw [List.mem_singleton] at hp; subst hp
      have := h.len
      exact ⟨h0, by show a < _; omega⟩
  · unfold oY
    rw [List.pairwise_append]
    refine ⟨h.ord, List.pairwise_singleton _ _, fun p hp q hq => ?_⟩
    rw [List.mem_singleton] at hq; subst hq
    intro _ hf; cases hf
  · rw [yV, h.eq]; rfl

theorem aEF (line : Int) : ∀ (l : List Pend) (w : List Int), app (gQ line l) w = app l w
  | [], w => rfl
  | p :: r, w => by
    show app ((if hX p.at_ = line then { p with fl := true } else p) :: gQ line r) w = _
    rw [app, app, aEF line r]
    split <;> rfl
theorem OkM.flush {vol per : List Int} {pend : List Pend} (h : OkM vol per pend) (line : Int) : OkM vol per (gQ line pend) := by
  refine ⟨h.len, h.sz, h.md, fun p hp => ?_, ?_, by rw [aEF]; exact h.eq⟩
  · obtain ⟨q, hq, rfl⟩ := List.mem_map.1 hp
    have := h.rng q hq
    split <;> exact this
  · unfold oY gQ
    rw [List.pairwise_map]
    refine h.ord.imp ?_
    intro p q hpq
    by_cases e1 : hX p.at_ = line <;> by_cases e2 : hX q.at_ = line
    · rw [if_pos e1, if_pos e2]; intros; rfl
    · rw [if_pos e1, if_neg e2]; intros; rfl
    · rw [if_neg e1, if_pos e2]; intro e; exact absurd (e.trans e2) e1
    · rw [if_neg e1, if_neg e2]; exact hpq
theorem OkM.keep {vol per : List Int} {pend : List Pend} (h : OkM vol per pend) {f : Pend → Bool} (hf : oY f pend) : OkM vol (lG f pend per) (mC f pend) := by
  rw [aAs]
  refine ⟨by rw [rC]; exact h.len, h.sz, h.md, fun p hp => ?_, List.Pairwise.filter _ h.ord, ?_⟩
  · rw [rC]; exact h.rng p (List.mem_filter.1 hp).1
  · apply aLC
    · rw [rC, rC]; exact h.len.symm
    intro i hi
    rw [rC, rC] at hi
    unfold mC
    rw [vQ _ _ _ (by rw [rC]; exact hi), vQ _ _ _ hi, aIY (fun p hp => (h.rng p hp).1) hf, h.vol_at hi]
theorem OkM.fence {vol per : List Int} {pend : List Pend} (h : OkM vol per pend) : OkM vol (lG fFl pend per) (mC fFl pend) := h.keep h.ord
def i64s (l : List Int) : Prop := ∀ x ∈ l, x < 9223372036854775808
def newM (l : List Int) : AV := .tup [memV (if szB l.length = true then l else []) (if szB l.length = true then l else []) [], .int .i64 (if szB l.length = true then 0 else 40)]
section
variable {vol per : List Int} {pend : List Pend} {a v line : Int} {f : Pend → Bool} {keep : List Int}
theorem aMV (h : mS vol per pend a = true) : putM vol per pend a v = .tup [memV (vol.set a.toNat v) per (pend ++ [⟨a, v, false⟩]), .int .i64 0] := by unfold putM; simp only [h, if_true]
theorem aKt (h : mS vol per pend (oX vol line) = true) : aAq vol per pend line = .tup [memV vol per (gQ line pend), .int .i64 0] := by unfold aAq; simp only [h, if_true]
theorem aKu : aDh f true vol per pend = .tup [memV vol (lG f pend per) (mC f pend), .int .i64 0] := rfl
theorem aEG : mS vol per pend a = true ↔ (0 ≤ a ∧ a < (vol.length : Int)) ∧ OkM vol per pend := by
  simp only [mS, Bool.and_eq_true, decide_eq_true_eq, aAu]
theorem OkM.small (h : OkM vol per pend) (hp : pend.length ≤ 1000000) : kP vol per pend := by
  have := h.sz; have := h.len
  unfold kP roomy; omega
theorem OkM.first (h : OkM vol per pend) (h0 : 0 ≤ line) (h1 : line < ((vol.length / 8 : Nat) : Int)) : oX vol line = line * 8 ∧ mS vol per pend (oX vol line) = true := by
  have e : oX vol line = line * 8 := by
    unfold oX
    rw [if_neg]
    simp only [Bool.or_eq_true, decide_eq_true_eq]; omega
  refine ⟨e, aEG.2 ⟨?_, h⟩⟩
  rw [e]; omega
theorem aIZ (line : Int) (l : List Pend) : (gQ line l).length = l.length := by simp [gQ]
theorem aHZ {l : List Int} (h : wfL (.ints .i64 l)) : i64s l := fun x hx => (aSd (h x hx)).2
end
theorem aNR {vol per : List Int} {pend : List Pend} (h : OkM vol per pend) {p : Pend} (hp : p ∈ pend) {i : Nat} : p.at_.toNat = i → fLn ((i : Int) / 8) p = true := by
  intro e
  have hr := h.rng p hp
  have := h.len
  have := h.sz
  unfold fLn
  rw [decide_eq_true_eq, aKs hr.1 (by omega)]
  omega
end Lam
namespace Lam
open Go

structure Mm where
  vol : List Int
  per : List Int
  pend : List Pend
  deriving DecidableEq
def Mm.V (m : Mm) : AV := memV m.vol m.per m.pend
attribute [go_sem] Mm.V
def Mm.ok (m : Mm) : Prop := OkM m.vol m.per m.pend
def Mm.okB (m : Mm) : Bool := nG m.vol m.per m.pend
theorem Mm.ok_iff {m : Mm} : m.okB = true ↔ m.ok := aAu
def mmay (x : Mic) (n : Int) : Bool := decide (0 ≤ x.at_) && decide (x.at_ < (if x.kind = 2 then IntKind.i64.wrap (n.tdiv 8) else if x.kind = 1 then n else 0)) && (decide (x.kind = 1) || decide (x.val = 0))
def aAv (n : Int) : Bool := decide (0 ≤ n) && decide (n ≤ 4096) && decide (n.tmod 8 = 0)
def aKv (l : List Mic) (n : Int) : Bool := aAv n && l.all (mmay · n)
def store (m : Mm) (a v : Int) : Mm := ⟨m.vol.set a.toNat v, m.per, m.pend ++ [⟨a, v, false⟩]⟩
def vD (m : Mm) (line : Int) : Mm := ⟨m.vol, lG fFl (gQ line m.pend) m.per, mC fFl (gQ line m.pend)⟩
def jP (m : Mm) (x : Mic) : Mm := if x.kind = 1 then store m x.at_ x.val else vD m x.at_
def runS (m : Mm) (l : List Mic) : Mm := l.foldl jP m

theorem aLD (m : Mm) : runS m [] = m := rfl
theorem aAw (m : Mm) (x : Mic) (l : List Mic) : runS m (x :: l) = runS (jP m x) l := rfl
theorem aHx (m : Mm) (a b : List Mic) : runS m (a ++ b) = runS (runS m a) b := List.foldl_append
def MayN (x : Mic) (n : Nat) : Prop := (x.kind = 1 ∧ 0 ≤ x.at_ ∧ x.at_ < (n : Int)) ∨ (x.kind = 2 ∧ 0 ≤ x.at_ ∧ x.at_ < ((n / 8 : Nat) : Int) ∧ x.val = 0)
theorem aGm {x : Mic} {n : Nat} (hn : n ≤ 4096) : mmay x n = true ↔ MayN x n := by
  have e : IntKind.i64.wrap ((n : Int).tdiv 8) = ((n / 8 : Nat) : Int) := by rw [aMu]; exact w64 (by omega) (by omega)
  simp only [mmay, e, Bool.and_eq_true, decide_eq_true_eq, Bool.or_eq_true]
  unfold MayN
  by_cases h2 : x.kind = 2
  · rw [if_pos h2]; omega
  · rw [if_neg h2]
    by_cases h1 : x.kind = 1
    · rw [if_pos h1]; omega
    · rw [if_neg h1]; omega
theorem aKw (m : Mm) (a v : Int) : (store m a v).vol.length = m.vol.length := by simp [store]
theorem aEH (m : Mm) (x : Mic) : (jP m x).vol.length = m.vol.length := by unfold jP; split; exact aKw _ _ _; rfl
theorem aGn : ∀ (l : List Mic) (m : Mm), (runS m l).vol.length = m.vol.length
  | [], m => rfl
  | x :: l, m => by rw [aAw, aGn l, aEH]
theorem tN (m : Mm) (x : Mic) : (jP m x).per.length = m.per.length := by
  unfold jP; split
  · rfl
  · exact aAr _ _ _
theorem aJa {m : Mm} (h : m.ok) (l : Int) : (vD m l).ok := (OkM.flush h l).fence
theorem vR {m : Mm} (h : m.ok) {x : Mic} (hx : MayN x m.vol.length) : (jP m x).ok := by
  unfold jP
  rcases hx with ⟨hk, h0, h1⟩ | ⟨hk, _⟩
  · rw [if_pos hk]; exact OkM.put h h0 h1
  · rw [if_neg (by omega)]; exact aJa h _
theorem aIa : ∀ (l : List Mic) {m : Mm}, m.ok → (∀ x ∈ l, MayN x m.vol.length) → (runS m l).ok
  | [], m, h, _ => h
  | x :: l, m, h, hl => by
    rw [aAw]
    refine aIa l (vR h (hl x (by simp))) fun y hy => ?_
    rw [aEH]; exact hl y (by simp [hy])
theorem aAx : ∀ (l : List Mic) (m : Mm), (runS m l).pend.length ≤ m.pend.length + l.length
  | [], m => by simp [aLD]
  | x :: l, m => by
    rw [aAw]
    refine Nat.le_trans (aAx l _) ?_
    have : (jP m x).pend.length ≤ m.pend.length + 1 := by
      unfold jP
      split
      · simp [store]
      · refine Nat.le_trans (List.length_filter_le _ _) ?_
        simp [gQ]
    simp only [List.length_cons]; omega

def gL (line : Int) (p : Pend) : Bool := p.fl || fLn line p
theorem aAy (line : Int) (f : Pend → Bool) (hf : ∀ p, f p = fFl p) : ∀ l : List Pend, (gQ line l).filter f = (l.filter (gL line)).map fun p => if hX p.at_ = line then { p with fl := true } else p
  | [] => rfl
  | p :: r => by
    have ih := aAy line f hf r
    show ((if hX p.at_ = line then { p with fl := true } else p) :: gQ line r).filter f = _
    by_cases e : hX p.at_ = line
    · rw [if_pos e, List.filter_cons_of_pos (by rw [hf]; rfl), List.filter_cons_of_pos (by simp [gL, fLn, e]), ih, List.map_cons, if_pos e]
    · rw [if_neg e]
      cases h : p.fl with
      | true => rw [List.filter_cons_of_pos (by rw [hf]; exact h), List.filter_cons_of_pos (by simp [gL, h]), ih, List.map_cons, if_neg e]
      | false => rw [List.filter_cons_of_neg (by rw [hf]; simp [fFl, h]), List.filter_cons_of_neg (by simp [gL, fLn, h, e]), ih]
theorem aAz (m : Mm) (line : Int) : (vD m line).pend = m.pend.filter fun p => !gL line p := by
  show mC fFl (gQ line m.pend) = _
  unfold mC
  induction m.pend with
  | nil => rfl
  | cons p r ih =>
    show ((if hX p.at_ = line then { p with fl := true } else p) :: gQ line r).filter _ = _
    by_cases e : hX p.at_ = line
    · rw [if_pos e, List.filter_cons_of_neg (by simp [fFl]), List.filter_cons_of_neg (by simp [gL, fLn, e]), ih]
    · rw [if_neg e]
      cases h : p.fl with
      | true => rw [List.filter_cons_of_neg (by simp [fFl, h]), List.filter_cons_of_neg (by simp [gL, h]), ih]
      | false => rw [List.filter_cons_of_pos (by simp [fFl, h]), List.filter_cons_of_pos (by simp [gL, fLn, h, e]), ih]
theorem aIb (g : Pend → Pend) (hg : ∀ p, (g p).at_ = p.at_ ∧ (g p).val = p.val) : ∀ (l : List Pend) (w : List Int), app (l.map g) w = app l w
  | [], w => rfl
  | p :: r, w => by rw [List.map_cons, app, app, (hg p).1, (hg p).2, aIb g hg r]
theorem aHy (m : Mm) (line : Int) : (vD m line).per = app (m.pend.filter (gL line)) m.per := by
  show lG fFl (gQ line m.pend) m.per = _
  rw [aAs, aAy line _ (fun _ => rfl), aIb]
  intro p; split <;> exact ⟨rfl, rfl⟩
theorem aHz (m : Mm) (line : Int) : (vD m line).pend.Sublist m.pend := by rw [aAz]; exact List.filter_sublist
/-! ### Steps whose lines are persisted as they are left: a crash leaves a beginning -/
def isS (x : Mic) : Bool := decide (x.kind = 1)
structure aJb (w : List Int) (m : Mm) (S : List Pend) (o : Option Int) : Prop where
  ok : m.ok
  cut : ∃ i, i ≤ S.length ∧ m.per = app (S.take i) w ∧ m.pend = S.drop i
  one : ∀ p ∈ m.pend, o = some (hX p.at_) ∧ p.fl = false
  all : m.vol = app S w
theorem aJb.store {w : List Int} {m : Mm} {S : List Pend} {o : Option Int} (h : aJb w m S o) {x : Mic} (hk : x.kind = 1) (hx : MayN x m.vol.length) (ho : ∀ L, o = some L → hX x.at_ = L) :
    aJb w (jP m x) (S ++ [⟨x.at_, x.val, false⟩]) (some (hX x.at_)) := by
  have e : jP m x = Lam.store m x.at_ x.val := by unfold jP; rw [if_pos hk]
  refine ⟨vR h.ok hx, ?_, ?_, ?_⟩
  · obtain ⟨i, hi, h1, h2⟩ := h.cut
    refine ⟨i, by simp; omega, ?_, ?_⟩
    · rw [e, List.take_append_of_le_length hi]; exact h1
    · rw [e, List.drop_append_of_le_length hi, ← h2]; rfl
  · intro p hp
    rw [e] at hp
    rcases List.mem_append.1 hp with hp | hp
    · obtain ⟨h1, h2⟩ := h.one p hp
      exact ⟨by rw [ho _ h1], h2⟩
    · rw [List.mem_singleton] at hp; subst hp; exact ⟨rfl, rfl⟩
  · rw [e, yV, ← h.all]; rfl
/-! ### What is seen, and kept, of a eY -/
/-! ### A line's own -/
def aMv (x : Mic) : Int := if x.kind = 1 then hX x.at_ else x.at_
def unfl (m : Mm) : Prop := ∀ p ∈ m.pend, p.fl = false
structure tO (L : Int) (m m' : Mm) : Prop where
  ok : m.ok
  ok' : m'.ok
  len : m.per.length = m'.per.length
  un : unfl m
  un' : unfl m'
  per : ∀ p : Nat, p < m.per.length → (p : Int) / 8 = L → m.per.getD p 0 = m'.per.getD p 0
  pend : m.pend.filter (fLn L) = m'.pend.filter (fLn L)
theorem aAA {m : Mm} (h : unfl m) (x : Mic) : unfl (jP m x) := by
  unfold jP
  split
  · intro p hp
    rcases List.mem_append.1 hp with hp | hp
    · exact h p hp
    · rw [List.mem_singleton] at hp; subst hp; rfl
  · intro p hp; exact h p ((aHz _ _).subset hp)
theorem aSg {m : Mm} (h : unfl m) (L : Int) : m.pend.filter (gL L) = m.pend.filter (fLn L) ∧ m.pend.filter (fun p => !gL L p) = m.pend.filter (fun p => !fLn L p) := by
  constructor <;> apply List.filter_congr <;> intro p hp <;> simp [gL, h p hp]
theorem aAB {m : Mm} (ok : m.ok) (un : unfl m) {x : Mic} {L : Int} : (jP m x).pend.filter (fLn L) = (if x.kind = 1 then m.pend.filter (fLn L) ++ (if hX x.at_ = L then [⟨x.at_, x.val, false⟩] else []) else if x.at_ = L then [] else m.pend.filter (fLn L)) ∧
    ∀ p : Nat, p < m.per.length → (p : Int) / 8 = L → (jP m x).per.getD p 0 = if x.kind = 1 then m.per.getD p 0 else if x.at_ = L then seen p (m.pend.filter (fLn L)) (m.per.getD p 0) else m.per.getD p 0 := by
  unfold jP
  by_cases hk : x.kind = 1
  · rw [if_pos hk, if_pos hk]
    refine ⟨?_, fun p _ _ => by rw [if_pos hk]; rfl⟩
    show (m.pend ++ [_]).filter _ = _
    rw [List.filter_append]
    congr 1
    by_cases e : hX x.at_ = L
    · rw [if_pos e, List.filter_cons_of_pos (show fLn L ⟨x.at_, x.val, false⟩ = true from decide_eq_true e)]; rfl
    · rw [if_neg e, List.filter_cons_of_neg (by unfold fLn; simpa using e)]; rfl
  · rw [if_neg hk, if_neg hk]
    obtain ⟨g1, g2⟩ := aSg un x.at_
    refine ⟨?_, fun p hp hL => ?_⟩
    · rw [aAz, g2, List.filter_filter]
      by_cases e : x.at_ = L
      · rw [if_pos e, e, List.filter_eq_nil_iff]
        intro p _; simp
      · rw [if_neg e]
        apply List.filter_congr
        intro p _
        unfold fLn
        by_cases e2 : hX p.at_ = L
        · rw [e2, decide_eq_true rfl, decide_eq_false (fun h => e h.symm)]; rfl
        · rw [decide_eq_false e2]; rfl
    · rw [aHy, g1, vQ _ _ _ hp, if_neg hk]
      by_cases e : x.at_ = L
      · rw [if_pos e, e]
      · rw [if_neg e, aEE]
        intro q hq e2
        obtain ⟨hq1, hq2⟩ := List.mem_filter.1 hq
        have := aNR ok hq1 e2
        unfold fLn at this hq2
        rw [decide_eq_true_eq] at this hq2
        rw [hL] at this
        exact e (hq2.symm.trans this)
theorem tO.same {L : Int} {m m' : Mm} (h : tO L m m') {x : Mic} (hx : MayN x m.vol.length) : tO L (jP m x) (jP m' x) := by
  obtain ⟨p1, p2⟩ := aAB h.ok h.un (x := x) (L := L)
  obtain ⟨q1, q2⟩ := aAB h.ok' h.un' (x := x) (L := L)
  have hlen : m.vol.length = m'.vol.length := by rw [OkM.len h.ok, OkM.len h.ok', h.len]
  refine ⟨vR h.ok hx, vR h.ok' (by rw [← hlen]; exact hx), by rw [tN, tN]; exact h.len, aAA h.un x, aAA h.un' x, fun p hp hL => ?_, by rw [p1, q1, h.pend]⟩
  rw [tN] at hp
  rw [p2 p hp hL, q2 p (by rw [← h.len]; exact hp) hL, h.per p hp hL, h.pend]
theorem tO.skip {L : Int} {m m' : Mm} (h : tO L m m') {x : Mic} (hx : MayN x m.vol.length) (hne : aMv x ≠ L) : tO L (jP m x) m' := by
  obtain ⟨p1, p2⟩ := aAB h.ok h.un (x := x) (L := L)
  unfold aMv at hne
  refine ⟨vR h.ok hx, h.ok', by rw [tN]; exact h.len, aAA h.un x, h.un', fun p hp hL => ?_, ?_⟩
  · rw [tN] at hp
    rw [p2 p hp hL, ← h.per p hp hL]
    by_cases hk : x.kind = 1
    · rw [if_pos hk]
    · rw [if_neg hk] at hne ⊢; rw [if_neg hne]
  · rw [p1, ← h.pend]
    by_cases hk : x.kind = 1
    · rw [if_pos hk] at hne ⊢
      rw [if_neg hne, List.append_nil]
    · rw [if_neg hk] at hne ⊢; rw [if_neg hne]
theorem tO.refl {L : Int} {m : Mm} (ok : m.ok) (un : unfl m) : tO L m m := ⟨ok, ok, rfl, un, un, fun _ _ _ => rfl, rfl⟩
end Lam
namespace Lam
open Go

def rN (b : Int) : Bool := decide (0 ≤ b) && decide (IntKind.i64.wrap (b + 16) ≤ 4096) && decide (b.tmod 16 = 0)
theorem yW {b : Int} (h : b ≤ 1099511627776) : rN b = true ↔ 0 ≤ b ∧ b ≤ 4080 ∧ b % 16 = 0 := by
  unfold rN
  simp only [Bool.and_eq_true, decide_eq_true_eq]
  constructor
  · rintro ⟨⟨h0, h1⟩, h2⟩
    rw [w64 (by omega) (by omega)] at h1
    rw [Int.tmod_eq_emod_of_nonneg h0] at h2
    omega
  · rintro ⟨h0, h1, h2⟩
    rw [w64 (by omega) (by omega), Int.tmod_eq_emod_of_nonneg h0]
    omega
def oZ (base slot : Int) : Int := if (rN base && decide (0 ≤ slot) && decide (slot < 13)) = true then IntKind.i64.wrap (IntKind.i64.wrap (base + 3) + slot) else -1
theorem aGo {b s : Int} (hb : rN b = true) (h : b ≤ 1099511627776) (h0 : 0 ≤ s) (h1 : s < 13) : oZ b s = b + 3 + s := by
  have := (yW h).1 hb
  unfold oZ
  rw [hb, decide_eq_true h0, decide_eq_true h1]
  rw [if_pos (by rfl), w64 (n := b + 3) (by omega) (by omega), w64 (by omega) (by omega)]
def lt1 (n : Int) : Bool := decide (n < 1)
def idxI (p : Int → Bool) (l : List Int) : Int := if l.any p = true then (l.findIdx p : Nat) else -1
def upTo (l : List Int) : List Int := l.takeWhile fun w => !lt1 w
def mJ (words : List Int) (base : Int) : List Int := if (rN base && decide (base + 16 ≤ (words.length : Int))) = true then upTo ((words.drop (base.toNat + 3)).take 13) else []
theorem aLE (l : List Int) : l.take (if idxI lt1 l < 0 then (l.length : Int) else idxI lt1 l).toNat = upTo l := by
  unfold idxI upTo
  induction l with
  | nil => rfl
  | cons a r ih =>
    rw [List.any_cons, List.findIdx_cons, List.takeWhile_cons]
    cases ha : lt1 a with
    | true => simp
    | false =>
      simp only [Bool.false_or, Bool.not_false, if_true, cond_false]
      cases hr : r.any lt1 with
      | true =>
        rw [hr] at ih
        simp only [if_true] at ih ⊢
        rw [if_neg (by omega)] at ih ⊢
        rw [← ih]
        simp
      | false =>
        rw [hr] at ih
        simp only [Bool.false_eq_true, if_false] at ih ⊢
        rw [if_pos (by omega)] at ih ⊢
        rw [← ih]
        simp
theorem aJc (p : Int → Bool) (l : List Int) : -1 ≤ idxI p l ∧ idxI p l ≤ (l.length : Int) := by
  unfold idxI
  split
  · have := List.findIdx_le_length (p := p) (xs := l)
    omega
  · omega

def plain : List Int → List Int
  | [] => []
  | [a] => [a]
  | a :: b :: r => if a = b then plain (b :: r) else a :: plain (b :: r)
theorem uQ : ∀ (l : List Int) (x : Int), plain (l ++ [x]) = if l.getLast? = some x then plain l else plain l ++ [x]
  | [], x => by simp [plain]
  | [a], x => by
    simp only [List.cons_append, List.nil_append, plain, List.getLast?_singleton, Option.some.injEq]
    by_cases e : a = x
    · simp [e]
    · simp [e]
  | a :: b :: r, x => by
    have ih := uQ (b :: r) x
    simp only [List.cons_append] at ih ⊢
    rw [plain, ih, List.getLast?_cons_cons]
    split <;> split <;> simp_all [plain]
theorem wK : ∀ l : List Int, (plain l).length ≤ l.length
  | [] => Nat.le_refl _
  | [a] => Nat.le_refl _
  | a :: b :: r => by
    have := wK (b :: r)
    rw [plain]
    split
    · simp only [List.length_cons] at this ⊢; omega
    · simp only [List.length_cons] at this ⊢; omega
theorem aDi {l : List Int} {k : Nat} (h0 : 0 < k) (hk : k < l.length) : plain (l.take (k + 1)) = if l.getD k 0 = l.getD (k - 1) 0 then plain (l.take k) else plain (l.take k) ++ [l.getD k 0] := by
  rw [iH l k 0 hk, uQ]
  have : (l.take k).getLast? = some (l.getD (k - 1) 0) := by
    rw [List.getLast?_eq_getElem?, List.getElem?_take, List.length_take, List.getD_eq_getElem?_getD]
    have e : min k l.length - 1 = k - 1 := by omega
    rw [e, if_pos (by omega), List.getElem?_eq_getElem (by omega)]; rfl
  rw [this]
  by_cases e : l.getD k 0 = l.getD (k - 1) 0
  · rw [if_pos e, if_pos (by rw [e])]
  · rw [if_neg e, if_neg (fun h => e (Option.some.inj h).symm)]
theorem yX : ∀ (l : List Int), (∀ i, 0 < i → i < l.length → l.getD i 0 ≠ l.getD (i - 1) 0) → plain l = l
  | [], _ => rfl
  | [a], _ => rfl
  | a :: b :: r, h => by
    have h1 := h 1 (by omega) (by simp)
    have h1 : b ≠ a := h1
    rw [plain, if_neg (fun e => h1 e.symm), yX (b :: r) fun i h0 hi => ?_]
    have := h (i + 1) (by omega) (by simpa using hi)
    obtain ⟨j, rfl⟩ : ∃ j, i = j + 1 := ⟨i - 1, by omega⟩
    simpa using this
/-! ### Steps by which slots are stored -/
end Lam
namespace Lam
open Go

/-! ### A memory of two nodes -/
theorem aJd (z : List Int) (n : Nat) : upTo (z ++ List.replicate n 0) = upTo z := by
  unfold upTo
  induction z with
  | nil => cases n with
    | zero => rfl
    | succ n => rw [List.nil_append, List.replicate_succ, List.takeWhile_cons]; rfl
  | cons a r ih => rw [List.cons_append, List.takeWhile_cons, List.takeWhile_cons, ih]
theorem aLF {z : List Int} (h : ∀ x ∈ z, 0 < x) : upTo z = z := by
  unfold upTo
  induction z with
  | nil => rfl
  | cons a r ih =>
    have : lt1 a = false := decide_eq_false (by have := h a (by simp); omega)
    rw [List.takeWhile_cons, this, ih fun x hx => h x (by simp [hx])]; rfl
/-! ### Unlike slots -/
/-! ### Steps by which slots are stored, of the second node -/
def aIc (l : List aAP) : Prop := ∀ s ∈ l, 0 ≤ s.at_ ∧ s.at_ < 13
theorem aIc.get {l : List aAP} (h : aIc l) {n : Nat} (hn : n < l.length) : 0 ≤ (l.getD n ⟨0, 0⟩).at_ ∧ (l.getD n ⟨0, 0⟩).at_ < 13 := h _ (lJ l n _ hn)
end Lam
namespace Lam
open Go
theorem aKx (l : List Int) (n q : Nat) : (l.take n).getD q 0 = if q < n then l.getD q 0 else 0 := by
  rw [List.getD_eq_getElem?_getD, List.getElem?_take, List.getD_eq_getElem?_getD]; split <;> rfl
theorem aKy (l : List Int) (n q : Nat) : (l.drop n).getD q 0 = l.getD (n + q) 0 := by
  rw [List.getD_eq_getElem?_getD, List.getElem?_drop, List.getD_eq_getElem?_getD]
/-! ### Insert -/
/-! ### Delete -/
/-! ### Cut, swap -/
/-! ### How far -/
end Lam
namespace Lam
open Go
structure Nd where
  level : Int
  turn : Int
  next : Int
  low : Int
  slots : List Int
  deriving DecidableEq
def Nd.V (n : Nd) : AV := .agg [.int .i64 n.level, .int .i64 n.turn, .int .i64 n.next, .int .i64 n.low, .sl false (.ints .i64 n.slots)]
attribute [go_sem] Nd.V
def vE (n : Int) : Bool := decide (n = 0) || !(decide (0 ≤ n) && decide (n < 256))
def rO (n : Int) : Bool := decide (0 ≤ n) && decide (n < 256)
def Nd.ok (n : Nd) : Prop := 0 ≤ n.level ∧ n.level ≤ 9 ∧ 0 ≤ n.turn ∧ n.turn ≤ 1099511627776 ∧ (0 ≤ n.next ∧ n.next < 256) ∧ (0 ≤ n.low ∧ n.low < 256) ∧ n.slots.length ≤ 13 ∧ ∀ x ∈ n.slots, 1 ≤ x ∧ x < 256
def ndB (n : Nd) : Bool := decide (0 ≤ n.level) && decide (n.level ≤ 9) && decide (0 ≤ n.turn) && decide (n.turn ≤ 1099511627776) && rO n.next && rO n.low && decide (n.slots.length ≤ 13) && !n.slots.any vE
theorem xT {n : Nd} : ndB n = true ↔ n.ok := by
  unfold ndB Nd.ok rO vE
  simp only [Bool.and_eq_true, decide_eq_true_eq, Bool.not_eq_true', List.any_eq_false, Bool.or_eq_true, Bool.and_eq_false_iff, decide_eq_false_iff_not, not_or, not_and, Bool.not_eq_false']
  constructor
  · rintro ⟨⟨⟨⟨⟨⟨⟨h1, h2⟩, h3⟩, h4⟩, h5⟩, h6⟩, h7⟩, h8⟩
    exact ⟨h1, h2, h3, h4, h5, h6, h7, fun x hx => by have := h8 x hx; omega⟩
  · rintro ⟨h1, h2, h3, h4, h5, h6, h7, h8⟩
    exact ⟨⟨⟨⟨⟨⟨⟨h1, h2⟩, h3⟩, h4⟩, h5⟩, h6⟩, h7⟩, fun x hx => by have := h8 x hx; omega⟩
def aAC (n : Nd) : Int := 1152921504606846976 + 16 * n.turn + n.level
def gP (n : Nd) : List Int := aAC n :: n.next :: n.low :: (n.slots ++ List.replicate (13 - n.slots.length) 0)
theorem aAD {n : Nd} (h : n.ok) : (gP n).length = 16 := by
  have := h.2.2.2.2.2.2.1
  simp [gP]; omega
def pA (d : List Int → Nd) (w : List Int) : Option Nd := if (ndB (d w) && decide (gP (d w) = w)) = true then some (d w) else none
theorem wY {d : List Int → Nd} {w : List Int} {n : Nd} (h : pA d w = some n) : n.ok ∧ gP n = w := by
  unfold pA at h
  split at h
  · rename_i hc
    rw [Bool.and_eq_true, decide_eq_true_eq] at hc
    cases h
    exact ⟨xT.1 hc.1, hc.2⟩
  · cases h
theorem aEI {d : List Int → Nd} (hd : ∀ n, n.ok → d (gP n) = n) {n : Nd} (h : n.ok) : pA d (gP n) = some n := by
  unfold pA
  rw [hd n h, xT.2 h, decide_eq_true rfl]; rfl
theorem aKz {d d' : List Int → Nd} (hd : ∀ n, n.ok → d (gP n) = n) (hd' : ∀ n, n.ok → d' (gP n) = n) (w : List Int) : pA d w = pA d' w := by
  cases h : pA d w with
  | some n =>
    obtain ⟨h1, rfl⟩ := wY h
    rw [aEI hd' h1]
  | none =>
    cases h' : pA d' w with
    | none => rfl
    | some n =>
      obtain ⟨h1, rfl⟩ := wY h'
      rw [aEI hd h1] at h; cases h
def decN (w : List Int) : Nd := ⟨(w.getD 0 0 - 1152921504606846976) % 16, (w.getD 0 0 - 1152921504606846976) / 16, w.getD 1 0, w.getD 2 0, upTo (w.drop 3)⟩
theorem aDj {n : Nd} (h : n.ok) : upTo ((gP n).drop 3) = n.slots := by
  show upTo (n.slots ++ _) = _
  rw [aJd, aLF fun x hx => by have := h.2.2.2.2.2.2.2 x hx; omega]
theorem aJe {n : Nd} (h : n.ok) : decN (gP n) = n := by
  unfold decN
  rw [aDj h]
  have h5 := h.1
  have h6 := h.2.1
  have e0 : (gP n).getD 0 0 = 1152921504606846976 + 16 * n.turn + n.level := rfl
  have e1 : (gP n).getD 1 0 = n.next := rfl
  have e2 : (gP n).getD 2 0 = n.low := rfl
  rw [e0, e1, e2]
  cases n
  simp only at *
  simp only [Nd.mk.injEq, and_true]
  exact ⟨by omega, by omega⟩
def aDk (w : List Int) : Option Nd := pA decN w
theorem aDl {w : List Int} {n : Nd} (h : aDk w = some n) : n.ok ∧ gP n = w := wY h
def kT (words : List Int) (k : Nat) : List Int := (words.drop (16 * k)).take 16
def jL : Nd := ⟨0, 0, 0, 0, []⟩
/-! ### Bits -/
theorem aDT {a b : Nat} (h : a ||| b < 2 ^ 63) (ha : a < 2 ^ 63) (hb : b < 2 ^ 63) : orI .i64 a b = ((a ||| b : Nat) : Int) := by
  have e : (BitVec.ofInt 64 (a : Int) ||| BitVec.ofInt 64 (b : Int)).toNat = a ||| b := by
    rw [BitVec.toNat_or, BitVec.ofInt_natCast, BitVec.ofInt_natCast, BitVec.toNat_ofNat, BitVec.toNat_ofNat, Nat.mod_eq_of_lt (by omega), Nat.mod_eq_of_lt (by omega)]
  show IntKind.i64.wrap ((BitVec.ofInt 64 (a : Int) ||| BitVec.ofInt 64 (b : Int)).toNat) = _
  rw [e]
  exact w64 (by omega) (by omega)
theorem aLG {a b : Nat} (ha : a < 2 ^ 63) (hb : b < 2 ^ 63) : andI .i64 a b = ((a &&& b : Nat) : Int) := by
  have e : (BitVec.ofInt 64 (a : Int) &&& BitVec.ofInt 64 (b : Int)).toNat = a &&& b := by
    rw [BitVec.toNat_and, BitVec.ofInt_natCast, BitVec.ofInt_natCast, BitVec.toNat_ofNat, BitVec.toNat_ofNat, Nat.mod_eq_of_lt (by omega), Nat.mod_eq_of_lt (by omega)]
  have hle : a &&& b ≤ a := Nat.and_le_left
  show IntKind.i64.wrap ((BitVec.ofInt 64 (a : Int) &&& BitVec.ofInt 64 (b : Int)).toNat) = _
  rw [e]
  exact w64 (by omega) (by omega)
theorem aDm {i a b : Nat} (h : b < 2 ^ i) : 2 ^ i * a ||| b = 2 ^ i * a + b := (Nat.two_pow_add_eq_or_of_lt h a).symm
theorem aJf {r : Nat} (h : r < 2 ^ 60) : xS .i64 ((1152921504606846976 + r : Nat) : Int) 1152921504606846976 = (r : Int) := by
  have e : (BitVec.ofInt 64 ((1152921504606846976 + r : Nat) : Int) &&& ~~~ BitVec.ofInt 64 1152921504606846976).toNat = r := by
    have h1 : BitVec.ofInt 64 (1152921504606846976 : Int) = BitVec.ofNat 64 (2 ^ 60) := by decide
    have h2 : 1152921504606846976 + r = 2 ^ 60 * 1 ||| r := by rw [aDm h]
    rw [h1, BitVec.ofInt_natCast, h2]
    have h3 : BitVec.ofNat 64 (2 ^ 60 * 1 ||| r) = BitVec.ofNat 64 (2 ^ 60) ||| BitVec.ofNat 64 r := by
      apply BitVec.eq_of_toNat_eq
      rw [BitVec.toNat_or, BitVec.toNat_ofNat, BitVec.toNat_ofNat, BitVec.toNat_ofNat, Nat.mod_eq_of_lt (by rw [aDm h]; omega), Nat.mod_eq_of_lt (by omega), Nat.mod_eq_of_lt (by omega)]
    rw [h3]
    have h4 : (BitVec.ofNat 64 (2 ^ 60) ||| BitVec.ofNat 64 r) &&& ~~~ BitVec.ofNat 64 (2 ^ 60) = BitVec.ofNat 64 r := by
      apply BitVec.eq_of_getLsbD_eq
      intro i hi
      rw [BitVec.getLsbD_and, BitVec.getLsbD_or, BitVec.getLsbD_not, BitVec.getLsbD_ofNat, BitVec.getLsbD_ofNat, Nat.testBit_two_pow]
      by_cases e : 60 = i
      · subst e
        have : r.testBit 60 = false := Nat.testBit_lt_two_pow h
        rw [this]; simp
      · simp [e, hi]
    rw [h4, BitVec.toNat_ofNat, Nat.mod_eq_of_lt (by omega)]
  show IntKind.i64.wrap ((BitVec.ofInt 64 ((1152921504606846976 + r : Nat) : Int) &&& ~~~ BitVec.ofInt 64 1152921504606846976).toNat) = _
  rw [e]
  exact w64 (by omega) (by omega)
theorem aJg {a b : Int} (ha : 0 ≤ a) (ha2 : a < 16) (hb : 0 ≤ b) (hb2 : b ≤ 1099511627776) : orI .i64 (orI .i64 1152921504606846976 (IntKind.i64.wrap (b * 2 ^ min 4 64))) a = 1152921504606846976 + 16 * b + a := by
  obtain ⟨m, rfl⟩ := Int.eq_ofNat_of_zero_le ha
  obtain ⟨t, rfl⟩ := Int.eq_ofNat_of_zero_le hb
  have e1 : IntKind.i64.wrap ((t : Int) * 2 ^ min 4 64) = ((t * 16 : Nat) : Int) := by
    rw [show (2 : Int) ^ min 4 64 = 16 from by decide, show (t : Int) * 16 = ((t * 16 : Nat) : Int) from by simp]
    exact w64 (by omega) (by omega)
  have hlt : t * 16 < 2 ^ 60 := by omega
  have o1 : (2 ^ 60 * 1 ||| t * 16) = 2 ^ 60 + t * 16 := by rw [aDm hlt]
  have e2 : orI .i64 1152921504606846976 ((t * 16 : Nat) : Int) = ((2 ^ 60 + t * 16 : Nat) : Int) := by
    have := aDT (a := 2 ^ 60 * 1) (b := t * 16) (by rw [o1]; omega) (by omega) (by omega)
    rw [o1] at this
    exact this
  have o2 : (2 ^ 60 + t * 16 ||| m) = 2 ^ 60 + t * 16 + m := by
    have : 2 ^ 60 + t * 16 = 2 ^ 4 * (2 ^ 56 + t) := by omega
    rw [this, aDm (by omega)]
  rw [e1, e2, aDT (by rw [o2]; omega) (by omega) (by omega), o2]
  omega
def decP (w : List Int) : Nd := ⟨andI .i64 (w.getD 0 0) 15, (xS .i64 (w.getD 0 0) 1152921504606846976).fdiv (2 ^ min 4 64), w.getD 1 0, w.getD 2 0, mJ w 0⟩
theorem aJh {n : Nd} (h : n.ok) : decP (gP n) = n := by
  unfold decP
  have hs : mJ (gP n) 0 = n.slots := by
    unfold mJ
    rw [aAD h, if_pos (by decide)]
    have := h.2.2.2.2.2.2.1
    rw [show (0 : Int).toNat + 3 = 3 from rfl, List.take_of_length_le (by simp [gP]; omega), aDj h]
  have h5 := h.1
  have h6 := h.2.1
  have h7 := h.2.2.1
  have h8 := h.2.2.2.1
  have e1 : (gP n).getD 1 0 = n.next := rfl
  have e2 : (gP n).getD 2 0 = n.low := rfl
  obtain ⟨m, hm⟩ := Int.eq_ofNat_of_zero_le h5
  obtain ⟨t, ht⟩ := Int.eq_ofNat_of_zero_le h7
  have e0 : (gP n).getD 0 0 = ((1152921504606846976 + (16 * t + m) : Nat) : Int) := by
    show 1152921504606846976 + 16 * n.turn + n.level = _
    omega
  have a1 : andI .i64 ((1152921504606846976 + (16 * t + m) : Nat) : Int) 15 = (m : Int) := by
    have := aLG (a := 1152921504606846976 + (16 * t + m)) (b := 15) (by omega) (by omega)
    rw [show (15 : Nat) = 2 ^ 4 - 1 from rfl, Nat.and_two_pow_sub_one_eq_mod] at this
    refine this.trans ?_
    omega
  rw [hs, e0, e1, e2, a1, aJf (by omega), show (2 : Int) ^ min 4 64 = 16 from by decide, Int.fdiv_eq_ediv_of_nonneg _ (by decide)]
  cases n
  simp only at *
  simp only [Nd.mk.injEq, and_true]
  exact ⟨by omega, by omega⟩
theorem aLH (w : List Int) : pA decP w = aDk w := aKz (fun n h => aJh h) (fun n h => aJe h) w
theorem aFj (w : List Int) (b : Int) : roomy (mJ w b).length := by
  unfold mJ
  split
  · unfold upTo
    have := (List.takeWhile_sublist (l := (w.drop (b.toNat + 3)).take 13) fun x => !lt1 x).length_le
    rw [List.length_take] at this
    unfold roomy; omega
  · unfold roomy; simp
end Lam
namespace Lam
open Go
def aMw (a b : Int) : Int := xorI .u32 a b
def aMx (a b : Int) : Int := andI .u32 a b
def bitS (c : Int) : Int := aMw (c.fdiv (2 ^ min (Int.toNat 1) 32)) (aMx 3988292384 (IntKind.u32.wrap (0 - aMx c 1)))
def bitN : Nat → Int → Int
  | 0, c => c
  | n + 1, c => bitS (bitN n c)
def tabE (i : Nat) : Int := bitN 8 (IntKind.u32.wrap i)
def tabL : List Int := (List.range 256).map tabE
def aMy (t : List Int) (c b : Int) : Int := aMw (c.fdiv (2 ^ min (Int.toNat 8) 32)) (t.getD (xorI .u8 (IntKind.u8.wrap c) b).toNat 0)
def aNS (w : Int) (k : Nat) : Int := IntKind.u8.wrap ((IntKind.u64.wrap w).fdiv (2 ^ min (Int.toNat (56 - 8 * k)) 64))
def aFt (t : List Int) (w : Int) : Nat → Int → Int
  | 0, c => c
  | k + 1, c => aMy t (aFt t w k c) (aNS w k)
def aJi (t : List Int) (c w : Int) : Int := aFt t w 8 c
def sumC (l : List Int) : Int := l.foldl (aJi tabL) 4294967295
def aBd (l : List Int) : Int := IntKind.i64.wrap (notI .u32 (sumC l))
theorem aLI : tabL.length = 256 := by simp [tabL]
/-! ### As naturals -/
/-! ### As the reference has it -/
end Lam
namespace Lam
open Go
def pv (p : bD) : Nat := p.foldl (fun a b => a * 256 + b.toNat) 0
def pw (p : bD) : Nat := pv p * 256 ^ (7 - p.length)
def pB (s : bD) (k : Nat) : bD := (s.drop (7 * k)).take 7
def iN (s : bD) : Nat := (s.length + 6) / 7
def keyW (s : bD) : List Int := (List.range (iN s)).map fun k => (pw (pB s k) : Int)

theorem aHA (x b m : Nat) (hb : b < 256) : x * 2 ^ (m + 8) ||| b * 2 ^ m = (x * 256 + b) * 2 ^ m := by
  have e1 : x * 2 ^ (m + 8) = (x <<< 8) <<< m := by rw [Nat.shiftLeft_eq, Nat.shiftLeft_eq, Nat.pow_add, Nat.mul_assoc, Nat.mul_comm (2 ^ m)]
  have e2 : b * 2 ^ m = b <<< m := by rw [Nat.shiftLeft_eq]
  have e3 : (x * 256 + b) * 2 ^ m = (x <<< 8 + b) <<< m := by rw [Nat.shiftLeft_eq, Nat.shiftLeft_eq]
  rw [e1, e2, e3, ← Nat.shiftLeft_or_distrib, Nat.shiftLeft_add_eq_or_of_lt (by omega)]

theorem aId (p : bD) (b : UInt8) : pv (p ++ [b]) = pv p * 256 + b.toNat := by simp [pv]
theorem aJj : ∀ (p : bD), pv p < 256 ^ p.length := by
  intro p
  have key : ∀ (p : bD) (a n : Nat), a < 256 ^ n → p.foldl (fun a b => a * 256 + b.toNat) a < 256 ^ (n + p.length) := by
    intro p
    induction p with
    | nil => intro a n h; simpa using h
    | cons b r ih =>
      intro a n h
      have hb : b.toNat < 256 := b.toNat_lt
      have := ih (a * 256 + b.toNat) (n + 1) (by rw [Nat.pow_succ]; omega)
      simpa [Nat.add_assoc, Nat.add_comm 1] using this
  have := key p 0 0 (by simp)
  simpa [pv] using this

theorem aMW (p : bD) {j : Nat} (hp : p.length ≤ 7) (hj : j < p.length) :
    orI .i64 ((pv (p.take j) * 256 ^ (7 - j) : Nat) : Int) (IntKind.i64.wrap (IntKind.i64.wrap ((p.getD j 0).toNat : Int) * 2 ^ min (IntKind.i64.wrap (8 * IntKind.i64.wrap (6 - (j : Int)))).toNat 64)) = ((pv (p.take (j + 1)) * 256 ^ (7 - (j + 1)) : Nat) : Int) := by
  have hb : (p.getD j 0).toNat < 256 := (p.getD j 0).toNat_lt
  have hx : pv (p.take j) < 256 ^ j := by have := aJj (p.take j); rwa [List.length_take, Nat.min_eq_left (by omega)] at this
  rw [iH p j 0 hj, aId]
  generalize (p.getD j 0).toNat = b at *
  generalize pv (p.take j) = x at *
  have e1 : IntKind.i64.wrap (6 - (j : Int)) = ((6 - j : Nat) : Int) := by rw [w64 (by omega) (by omega)]; omega
  have e2 : IntKind.i64.wrap (8 * ((6 - j : Nat) : Int)) = ((8 * (6 - j) : Nat) : Int) := by rw [w64 (by omega) (by omega)]; omega
  have e3 : IntKind.i64.wrap ((b : Nat) : Int) = (b : Int) := w64 (by omega) (by omega)
  have hm : 8 * (6 - j) ≤ 48 := by omega
  have e4 : (256 : Nat) ^ (7 - j) = 2 ^ (8 * (6 - j) + 8) := by rw [show (256 : Nat) = 2 ^ 8 from rfl, ← Nat.pow_mul]; congr 1; omega
  have e5 : (256 : Nat) ^ (7 - (j + 1)) = 2 ^ (8 * (6 - j)) := by rw [show (256 : Nat) = 2 ^ 8 from rfl, ← Nat.pow_mul]; congr 1; omega
  rw [e1, e2, e3, Int.toNat_natCast, Nat.min_eq_left (by omega), e4, e5]
  have hpm : (2 : Nat) ^ (8 * (6 - j)) ≤ 2 ^ 48 := Nat.pow_le_pow_right (by omega) hm
  have hbm : b * 2 ^ (8 * (6 - j)) < 2 ^ 63 := by
    have : b * 2 ^ (8 * (6 - j)) ≤ 255 * 2 ^ 48 := Nat.mul_le_mul (by omega) hpm
    omega
  have ec : ((b : Int) * 2 ^ (8 * (6 - j))) = ((b * 2 ^ (8 * (6 - j)) : Nat) : Int) := by push_cast; rfl
  rw [ec, w64 (by omega) (by omega)]
  have hor := aHA x b (8 * (6 - j)) hb
  have hall : (x * 256 + b) * 2 ^ (8 * (6 - j)) < 2 ^ 63 := by
    have h1 : x * 256 + b < 256 ^ (j + 1) := by rw [Nat.pow_succ]; omega
    have h2 : (256 : Nat) ^ (j + 1) * 2 ^ (8 * (6 - j)) = 2 ^ 56 := by
      rw [show (256 : Nat) = 2 ^ 8 from rfl, ← Nat.pow_mul, ← Nat.pow_add]; congr 1; omega
    have h3 : (x * 256 + b) * 2 ^ (8 * (6 - j)) ≤ 256 ^ (j + 1) * 2 ^ (8 * (6 - j)) := Nat.mul_le_mul_right _ (by omega)
    omega
  have hle : x * 2 ^ (8 * (6 - j) + 8) ≤ x * 2 ^ (8 * (6 - j) + 8) ||| b * 2 ^ (8 * (6 - j)) := Nat.left_le_or
  rw [aDT (by rw [hor]; exact hall) (by omega) hbm, hor]

theorem aJk (s : bD) {k : Nat} (hk : k < iN s) : (keyW s).getD k 0 = (pw (pB s k) : Int) := by
  simp [keyW, List.getD_eq_getElem?_getD, hk]

def rP (w : Int) (i : Nat) : Int := IntKind.u8.wrap (w.fdiv (2 ^ (8 * (6 - i))))
def rQ (w : Int) : List Int := (List.range 7).map (rP w)
def jV (l : List Int) : List Int := l.flatMap rQ
def wMay (w : Int) : Bool := decide (0 ≤ w) && decide (w < 72057594037927936)
def lenT (n : Int) : Int := IntKind.i64.wrap (IntKind.i64.wrap (n.tdiv 7) + (if n.tmod 7 < 1 then n.tmod 7 else 1))
def nT (l : List Int) (n : Int) : Bool := !decide (n < 0) && decide ((l.length : Int) = lenT n) && l.all wMay && ((jV l).drop n.toNat).all (fun b => decide (b = 0))
def wL (l : List Int) (n : Int) : bD := ((jV l).take n.toNat).map fun b => UInt8.ofNat b.toNat
theorem aGp (m : Nat) (h : (m : Int) < 9223372036854775808) : lenT m = ((m + 6) / 7 : Nat) := by
  unfold lenT
  have e1 : (m : Int).tdiv 7 = ((m / 7 : Nat) : Int) := rfl
  have e2 : (m : Int).tmod 7 = ((m % 7 : Nat) : Int) := rfl
  rw [e1, e2, w64 (n := ((m / 7 : Nat) : Int)) (by omega) (by omega)]
  split
  · rw [w64 (by omega) (by omega)]; omega
  · rw [w64 (by omega) (by omega)]; omega

theorem aKA (l : List Int) : (jV l).length = 7 * l.length := by
  induction l with
  | nil => rfl
  | cons w r ih => simp only [jV, List.flatMap_cons, List.length_append, List.length_cons] at ih ⊢; rw [ih]; simp [rQ]; omega
theorem aHB (w : Int) (i : Nat) : 0 ≤ rP w i ∧ rP w i < 256 := aGk _

/-! ### Words and bytes -/
theorem aEJ (p q : bD) : pv (p ++ q) = pv p * 256 ^ q.length + pv q := by
  have key : ∀ (q : bD) (a : Nat), q.foldl (fun a b => a * 256 + b.toNat) a = a * 256 ^ q.length + pv q := by
    intro q
    induction q with
    | nil => intro a; simp [pv]
    | cons b r ih =>
      intro a
      have h1 := ih (a * 256 + b.toNat)
      have h2 := ih b.toNat
      have h3 : pv (b :: r) = r.foldl (fun a b => a * 256 + b.toNat) b.toNat := by simp [pv]
      rw [h3, h2, List.foldl_cons, h1, List.length_cons, Nat.pow_succ, Nat.add_mul]
      rw [Nat.mul_assoc a 256, Nat.mul_comm 256]
      omega
  have := key q (pv p)
  rw [← this]
  simp [pv]

theorem aLJ (n : Nat) : pv (List.replicate n 0) = 0 := by
  induction n with
  | zero => rfl
  | succ n ih => simpa [pv, List.replicate_succ] using ih

def padB (p : bD) : bD := p ++ List.replicate (7 - p.length) 0
theorem aKB (p : bD) : pw p = pv (padB p) := by
  unfold pw padB
  rw [aEJ, aLJ, List.length_replicate, Nat.add_zero]
theorem aGq {p : bD} (h : p.length ≤ 7) : (padB p).length = 7 := by simp [padB]; omega

theorem aNT (q : bD) {i : Nat} (hi : i < q.length) : pv q / 256 ^ (q.length - 1 - i) % 256 = (q.getD i 0).toNat := by
  have e : q = q.take (i + 1) ++ q.drop (i + 1) := (List.take_append_drop _ _).symm
  have hd : (q.drop (i + 1)).length = q.length - 1 - i := by simp; omega
  have hlt := aJj (q.drop (i + 1))
  have e2 : pv q = pv (q.take (i + 1)) * 256 ^ (q.length - 1 - i) + pv (q.drop (i + 1)) := by
    conv => lhs; rw [e]
    rw [aEJ, hd]
  rw [hd] at hlt
  have hpos : 0 < 256 ^ (q.length - 1 - i) := Nat.pow_pos (by omega)
  rw [e2, Nat.mul_comm, Nat.mul_add_div hpos, Nat.div_eq_of_lt hlt, Nat.add_zero, iH q i 0 hi, aId]
  have := (q.getD i 0).toNat_lt
  omega

theorem aKC (n i : Nat) : rP n i = ((n / 256 ^ (6 - i) % 256 : Nat) : Int) := by
  unfold rP
  have e : (2 : Int) ^ (8 * (6 - i)) = ((256 ^ (6 - i) : Nat) : Int) := by
    rw [show (256 : Nat) = 2 ^ 8 from rfl, ← Nat.pow_mul]; push_cast; rfl
  rw [e]
  have e2 : (n : Int).fdiv ((256 ^ (6 - i) : Nat) : Int) = ((n / 256 ^ (6 - i) : Nat) : Int) := by
    rw [Int.fdiv_eq_ediv_of_nonneg _ (Int.natCast_nonneg _)]; exact (Int.natCast_ediv _ _).symm
  rw [e2]
  simp [IntKind.wrap, IntKind.bits, IntKind.signed]

def nU (p : bD) : List Int := p.map fun b => (b.toNat : Int)
theorem aEK (p : bD) : (nU p).length = p.length := by simp [nU]

theorem aKD {q : bD} (h : q.length = 7) : rQ (pv q : Nat) = nU q := by
  apply List.ext_getElem
  · simp [rQ, nU, h]
  intro i h1 h2
  have hi : i < q.length := by simpa [nU] using h2
  simp only [rQ, nU, List.getElem_map, List.getElem_range]
  rw [aKC]
  have := aNT q hi
  rw [h] at this
  rw [show 6 - i = 7 - 1 - i by omega, this, List.getD_eq_getElem?_getD, List.getElem?_eq_getElem hi]
  rfl

theorem aNU {q : bD} (h : q.length = 7) : pv q < 72057594037927936 := by have := aJj q; rw [h] at this; exact this

theorem aKE {p q : bD} (h : nU p = nU q) : p = q := by
  apply List.ext_getElem
  · have := congrArg List.length h; simpa [nU] using this
  intro i h1 h2
  have := congrArg (fun l => l.getD i 0) h
  simp [nU, List.getD_eq_getElem?_getD, h1, h2] at this
  exact UInt8.toNat_inj.1 (Int.natCast_inj.1 this)

theorem aHC {l : List Int} : ∀ b ∈ jV l, 0 ≤ b ∧ b < 256 := by
  intro b hb
  simp only [jV, List.mem_flatMap, rQ, List.mem_map] at hb
  obtain ⟨w, _, i, _, rfl⟩ := hb
  exact aHB w i

theorem aJl {l : List Int} {n : Nat} : nU (wL l n) = (jV l).take n := by
  unfold nU wL
  rw [List.map_map, Int.toNat_natCast]
  conv => rhs; rw [← List.map_id ((jV l).take n)]
  apply List.map_congr_left
  intro b hb
  obtain ⟨h1, h2⟩ := aHC b (List.mem_of_mem_take hb)
  simp only [Function.comp, id]
  rw [UInt8.toNat_ofNat', Nat.mod_eq_of_lt (by omega)]
  omega

/-! ### A text's words -/
theorem aJm (s : bD) (k : Nat) : (pB s k).length ≤ 7 := by unfold pB; simp; omega
theorem vS (s : bD) : (keyW s).length = iN s := by simp [keyW]
theorem aLK (s : bD) : (keyW s).all wMay = true := by
  rw [List.all_eq_true]
  intro w hw
  simp only [keyW, List.mem_map] at hw
  obtain ⟨k, _, rfl⟩ := hw
  rw [aKB]
  have := aNU (aGq (aJm s k))
  simp [wMay]; omega

theorem aKF {s : bD} (h : s ≠ []) : keyW s = (pw (s.take 7) : Int) :: keyW (s.drop 7) := by
  have hp : 0 < s.length := List.length_pos_iff.2 h
  apply List.ext_getElem
  · simp [keyW, iN]; omega
  intro i h1 h2
  simp only [keyW, List.getElem_map, List.getElem_range]
  cases i with
  | zero => simp [pB]
  | succ i =>
    simp only [List.getElem_cons_succ, List.getElem_map, List.getElem_range, pB, List.drop_drop]
    rw [show 7 * (i + 1) = 7 + 7 * i by omega]

theorem aBC : ∀ (n : Nat) (s : bD), s.length ≤ n → jV (keyW s) = nU s ++ List.replicate (7 * iN s - s.length) 0
  | n, [], _ => rfl
  | 0, b :: r, h => by simp at h
  | n + 1, b :: r, h => by
    rw [aKF (by simp)]
    generalize hs : b :: r = s at *
    have hp : 0 < s.length := by rw [← hs]; simp
    have e1 : ∀ (x : Int) (l : List Int), jV (x :: l) = rQ x ++ jV l := fun x l => by simp [jV]
    have htl : (s.take 7).length ≤ 7 := by simp; omega
    rw [e1, aKB, aKD (aGq htl), aBC n (s.drop 7) (by simp; omega)]
    unfold padB
    simp only [nU, List.map_append, List.append_assoc, List.map_replicate, List.length_take, List.length_drop]
    rcases Nat.lt_or_ge s.length 7 with h7 | h7
    · have h1 : s.take 7 = s := List.take_of_length_le (by omega)
      have h2 : s.drop 7 = [] := List.drop_eq_nil_of_le (by omega)
      rw [h1, h2]
      have h3 : iN s = 1 := by unfold iN; omega
      rw [h3]
      simp [iN, Nat.min_eq_right (Nat.le_of_lt h7)]
    · have h3 : iN (s.drop 7) = iN s - 1 := by unfold iN; simp; omega
      have h4 : 1 ≤ iN s := by unfold iN; omega
      rw [Nat.min_eq_left h7, h3]
      have h5 : 7 * (iN s - 1) - (s.length - 7) = 7 * iN s - s.length := by omega
      rw [h5]
      simp only [List.map_take, List.map_drop, Nat.sub_self, List.replicate_zero, List.nil_append]
      rw [← List.append_assoc, List.take_append_drop]

theorem aJn (s : bD) (h : s.length < 9223372036854775808) : nT (keyW s) s.length = true ∧ wL (keyW s) s.length = s := by
  have hf := aBC s.length s (Nat.le_refl _)
  have ht : (jV (keyW s)).take s.length = nU s := by rw [hf, List.take_left' (aEK s)]
  refine ⟨?_, aKE (by rw [aJl, ht])⟩
  unfold nT
  rw [aLK, vS, aGp _ (by omega), Int.toNat_natCast, hf, List.drop_left' (aEK s)]
  have : ¬ ((s.length : Int) < 0) := by omega
  simp only [this, decide_false, Bool.not_false, Bool.true_and, iN, decide_true, Bool.and_true]
  rw [List.all_eq_true]
  intro b hb
  rw [List.eq_of_mem_replicate hb]; rfl

end Lam
namespace Lam
open Go
structure Rc where
  kind : Int
  key : bD
  val : bD
  child : Int
  deriving DecidableEq
def Rc.V (x : Rc) : AV := .agg [.int .i64 x.kind, .str x.key, .str x.val, .int .i64 x.child]
attribute [go_sem] Rc.V
def Rc.ok (x : Rc) : Prop := (x.kind = 1 ∧ x.key ≠ [] ∧ x.key.length ≤ 21 ∧ x.val.length ≤ 21 ∧ x.child = 0) ∨ (x.kind = 2 ∧ x.key.length ≤ 21 ∧ x.val = [] ∧ 0 < x.child ∧ x.child < 256)
def keyB (s : bD) : Bool := decide (s ≠ []) && decide ((s.length : Int) ≤ 21)
def recB (x : Rc) : Bool := (decide (x.kind = 1) && (keyB x.key && decide ((x.val.length : Int) ≤ 21) && decide (x.child = 0))) || (decide (x.kind = 2) && ((decide (x.key = []) || keyB x.key) && decide (x.val = []) && decide (0 < x.child) && decide (x.child < 256)))
theorem xU {x : Rc} : recB x = true ↔ x.ok := by
  unfold recB Rc.ok keyB
  simp only [Bool.or_eq_true, Bool.and_eq_true, decide_eq_true_eq]
  constructor
  · rintro (⟨h1, ⟨⟨h2, h3⟩, h4⟩, h5⟩ | ⟨h1, ⟨⟨h2, h3⟩, h4⟩, h5⟩)
    · exact .inl ⟨h1, h2, by omega, by omega, h5⟩
    · refine .inr ⟨h1, ?_, h3, h4, h5⟩
      rcases h2 with h | h
      · rw [h]; exact Nat.zero_le _
      · omega
  · rintro (⟨h1, h2, h3, h4, h5⟩ | ⟨h1, h2, h3, h4, h5⟩)
    · exact .inl ⟨h1, ⟨⟨h2, by omega⟩, by omega⟩, h5⟩
    · refine .inr ⟨h1, ⟨⟨?_, h3⟩, h4⟩, h5⟩
      by_cases e : x.key = []
      · exact .inl e
      · exact .inr ⟨e, by omega⟩
theorem Rc.ok.key {x : Rc} (h : x.ok) : x.key.length ≤ 21 := by rcases h with h | h; exact h.2.2.1; exact h.2.1
theorem Rc.ok.val {x : Rc} (h : x.ok) : x.val.length ≤ 21 := by
  rcases h with h | h
  · exact h.2.2.2.1
  · rw [h.2.2.1]; exact Nat.zero_le _
def jZ (s : bD) : List Int := keyW s ++ List.replicate (3 - (keyW s).length) 0
theorem pC {s : bD} (h : s.length ≤ 21) : (jZ s).length = 3 := by
  have h1 : (keyW s).length = iN s := vS s
  have h2 : iN s = (s.length + 6) / 7 := rfl
  simp [jZ]; omega
def wM (x : Rc) : List Int := jZ x.key ++ ((if x.kind = 2 then [x.child, 0, 0] else jZ x.val) ++ List.replicate 7 0)
def nC (x : Rc) : Int := 32 * (x.key.length : Int) + (x.val.length : Int)
def jE (x : Rc) : List Int := x.kind :: nC x :: aBd (x.kind :: nC x :: wM x) :: wM x
theorem aLL {x : Rc} (h : x.ok) : (wM x).length = 13 := by
  have h1 := pC h.key
  have h2 := pC h.val
  unfold wM
  split <;> simp [h1, h2]
theorem aCc {x : Rc} (h : x.ok) : (jE x).length = 16 := by
  have := aLL h
  simp [jE, this]
theorem aEL (s : bD) (h : s.length ≤ 21) : nT ((jZ s).take ((s.length + 6) / 7)) s.length = true ∧ wL ((jZ s).take ((s.length + 6) / 7)) s.length = s := by
  have h1 : (keyW s).length = (s.length + 6) / 7 := vS s
  have : (jZ s).take ((s.length + 6) / 7) = keyW s := by
    unfold jZ; exact List.take_left' h1
  rw [this]
  exact aJn s (by omega)
def txtB (w : List Int) (at_ : Nat) (n : Int) : Bool := decide (0 ≤ n) && decide (n ≤ 21) && nT ((w.drop at_).take ((n.toNat + 6) / 7)) n
def txtS (w : List Int) (at_ : Nat) (n : Int) : bD := if txtB w at_ n = true then wL ((w.drop at_).take ((n.toNat + 6) / 7)) n else []
theorem aGr {x : Rc} (h : x.ok) : txtB (jE x) 3 (x.key.length : Int) = true ∧ txtS (jE x) 3 (x.key.length : Int) = x.key := by
  have hk := h.key
  have h3 := pC hk
  have e : ((jE x).drop 3).take ((x.key.length + 6) / 7) = (jZ x.key).take ((x.key.length + 6) / 7) := by
    show (jZ x.key ++ _).take _ = _
    exact List.take_append_of_le_length (by rw [h3]; omega)
  have ht := aEL x.key hk
  have hb : txtB (jE x) 3 (x.key.length : Int) = true := by
    unfold txtB
    rw [Int.toNat_natCast, e, ht.1, decide_eq_true (by omega), decide_eq_true (by omega)]; rfl
  refine ⟨hb, ?_⟩
  unfold txtS
  rw [if_pos hb, Int.toNat_natCast, e]; exact ht.2
theorem aGs {x : Rc} (h : x.ok) (h1 : x.kind = 1) : txtB (jE x) 6 (x.val.length : Int) = true ∧ txtS (jE x) 6 (x.val.length : Int) = x.val := by
  have hk := pC h.key
  have hv := h.val
  have h3 := pC hv
  have e : ((jE x).drop 6).take ((x.val.length + 6) / 7) = (jZ x.val).take ((x.val.length + 6) / 7) := by
    have : (jE x).drop 6 = jZ x.val ++ List.replicate 7 0 := by
      show (jZ x.key ++ _).drop 3 = _
      rw [List.drop_left' hk, if_neg (by rw [h1]; decide)]
    rw [this]
    exact List.take_append_of_le_length (by rw [h3]; omega)
  have ht := aEL x.val hv
  have hb : txtB (jE x) 6 (x.val.length : Int) = true := by
    unfold txtB
    rw [Int.toNat_natCast, e, ht.1, decide_eq_true (by omega), decide_eq_true (by omega)]; rfl
  refine ⟨hb, ?_⟩
  unfold txtS
  rw [if_pos hb, Int.toNat_natCast, e]; exact ht.2
theorem aJo {x : Rc} (h : x.ok) (h2 : x.kind = 2) : (jE x).getD 6 0 = x.child := by
  have hk := pC h.key
  show (jZ x.key ++ _).getD 3 0 = _
  rw [aBm _ _ _ _ (by omega), hk, if_pos h2]; rfl
def decC (w : List Int) : Rc := ⟨w.getD 0 0, txtS w 3 (w.getD 1 0 / 32), if w.getD 0 0 = 1 then txtS w 6 (w.getD 1 0 % 32) else [], if w.getD 0 0 = 2 then w.getD 6 0 else 0⟩
theorem aAE {x : Rc} (h : x.ok) : nC x / 32 = x.key.length ∧ nC x % 32 = x.val.length ∧ 0 ≤ nC x ∧ nC x ≤ 693 := by
  have := h.key; have := h.val
  unfold nC; omega
theorem aEM {x : Rc} (h : x.ok) : decC (jE x) = x := by
  have e0 : (jE x).getD 0 0 = x.kind := rfl
  have e1 : (jE x).getD 1 0 = nC x := rfl
  have hl := aAE h
  unfold decC
  rw [e0, e1, hl.1, hl.2.1, (aGr h).2]
  have h' := h
  rcases h with ⟨h1, _, _, _, h5⟩ | ⟨h1, _, h3, _, _⟩
  · rw [if_pos h1, if_neg (by rw [h1]; decide), (aGs h' h1).2]
    cases x; simp only at *; simp only [h5]
  · rw [if_neg (by rw [h1]; decide), if_pos h1, aJo h' h1]
    cases x; simp only at *; simp only [h3]
def pQ (d : List Int → Rc) (w : List Int) : Option Rc := if (recB (d w) && decide (jE (d w) = w)) = true then some (d w) else none
theorem yY {d : List Int → Rc} {w : List Int} {n : Rc} (h : pQ d w = some n) : n.ok ∧ jE n = w := by
  unfold pQ at h
  split at h
  · rename_i hc
    rw [Bool.and_eq_true, decide_eq_true_eq] at hc
    cases h
    exact ⟨xU.1 hc.1, hc.2⟩
  · cases h
theorem aGt {d : List Int → Rc} (hd : ∀ n, n.ok → d (jE n) = n) {n : Rc} (h : n.ok) : pQ d (jE n) = some n := by
  unfold pQ
  rw [hd n h, xU.2 h, decide_eq_true rfl]; rfl
theorem aLM {d d' : List Int → Rc} (hd : ∀ n, n.ok → d (jE n) = n) (hd' : ∀ n, n.ok → d' (jE n) = n) (w : List Int) : pQ d w = pQ d' w := by
  cases h : pQ d w with
  | some n =>
    obtain ⟨h1, rfl⟩ := yY h
    rw [aGt hd' h1]
  | none =>
    cases h' : pQ d' w with
    | none => rfl
    | some n =>
      obtain ⟨h1, rfl⟩ := yY h'
      rw [aGt hd h1] at h; cases h
def wN (w : List Int) : Option Rc := pQ decC w
theorem aDn {w : List Int} {x : Rc} (h : wN w = some x) : x.ok ∧ jE x = w := yY h
theorem aDo {w : List Int} (h : ∀ x : Rc, x.ok → jE x ≠ w) : wN w = none := by
  cases e : wN w with
  | none => rfl
  | some x => exact absurd (aDn e).2 (h x (aDn e).1)
def kE : Rc := ⟨0, [], [], 0⟩
end Lam
namespace Lam
open Go
def dJ (w : List Int) (b : Int) : Option Nd := if (decide (b < 0) || decide (((w.length / 16 : Nat) : Int) ≤ b)) = true then none else aDk (kT w b.toNat)
def recO (w : List Int) (b : Int) : Option Rc := if (decide (b < 0) || decide (((w.length / 16 : Nat) : Int) ≤ b)) = true then none else wN (kT w b.toNat)
theorem lR {w : List Int} {b : Int} {n : Nd} (h : dJ w b = some n) : n.ok ∧ 0 ≤ b ∧ b < ((w.length / 16 : Nat) : Int) ∧ aDk (kT w b.toNat) = some n := by
  unfold dJ at h
  split at h
  · cases h
  · rename_i hb
    simp only [Bool.or_eq_true, decide_eq_true_eq, not_or] at hb
    exact ⟨(aDl h).1, by omega, by omega, h⟩
def tP (w : List Int) : Nat → Int → List Int → Option (List Int)
  | 0, _, _ => none
  | m + 1, b, out => if b = 0 then some out else match dJ w b with
    | none => none
    | some n => if n.level = 0 ∧ b ∉ out then tP w m n.next (out ++ [b]) else none
theorem aGu {N : Nat} : ∀ {l : List Int}, l.Nodup → (∀ x ∈ l, 0 ≤ x ∧ x < (N : Int)) → l.length ≤ N := by
  intro l hn hx
  have h1 : (l.map Int.toNat).Nodup := by
    unfold List.Nodup at hn ⊢
    rw [List.pairwise_map]
    exact hn.imp_of_mem fun {a b} ha hb hne => by have := hx a ha; have := hx b hb; omega
  have h2 : ∀ x ∈ l.map Int.toNat, x ∈ List.range N := by
    intro x hm
    obtain ⟨y, hy, rfl⟩ := List.mem_map.1 hm
    have := hx y hy
    rw [List.mem_range]; omega
  have := List.Nodup.length_le_of_subset h1 (fun x hx => h2 x hx)
  simpa using this
theorem aBD {w : List Int} : ∀ (m : Nat) (b : Int) (out l : List Int), tP w m b out = some l → out.Nodup → (∀ x ∈ out, 0 ≤ x ∧ x < ((w.length / 16 : Nat) : Int)) →
    l.Nodup ∧ (∀ x ∈ l, 0 ≤ x ∧ x < ((w.length / 16 : Nat) : Int)) ∧ ∃ r, l = out ++ r ∧ (b ≠ 0 → ∃ r', r = b :: r') ∧ ∀ x ∈ r, ∃ n, dJ w x = some n ∧ n.level = 0
  | 0, b, out, l, h, _, _ => by cases h
  | m + 1, b, out, l, h, hn, hr => by
    simp only [tP] at h
    split at h
    · rename_i h0
      cases h
      exact ⟨hn, hr, [], by simp, fun h => absurd h0 h, by simp⟩
    · rename_i h0
      cases hnd : dJ w b with
      | none => rw [hnd] at h; cases h
      | some n =>
        rw [hnd] at h
        simp only at h
        split at h
        rotate_left
        · cases h
        rename_i hc
        obtain ⟨_, q0, q1, _⟩ := lR hnd
        have hn' : (out ++ [b]).Nodup := by
          rw [List.nodup_append]
          refine ⟨hn, by simp, fun a ha b' hb' => ?_⟩
          simp only [List.mem_singleton] at hb'
          subst hb'
          rintro rfl
          exact hc.2 ha
        have hr' : ∀ x ∈ out ++ [b], 0 ≤ x ∧ x < ((w.length / 16 : Nat) : Int) := by
          intro x hx
          simp only [List.mem_append, List.mem_singleton] at hx
          rcases hx with hx | rfl
          · exact hr x hx
          · exact ⟨q0, q1⟩
        obtain ⟨g1, g2, r, g3, _, g4⟩ := aBD m _ _ _ h hn' hr'
        refine ⟨g1, g2, b :: r, by rw [g3]; simp, fun _ => ⟨r, rfl⟩, fun x hx => ?_⟩
        rcases List.mem_cons.1 hx with rfl | hx
        · exact ⟨n, hnd, hc.1⟩
        · exact g4 x hx
def lA (hb : Bool) (w : List Int) : Option (List Int) := if hb = true then tP w (w.length / 16 + 1) 1 [] else none
theorem mX {hb : Bool} {w l : List Int} (h : lA hb w = some l) : hb = true ∧ l.Nodup ∧ (∀ x ∈ l, 0 ≤ x ∧ x < ((w.length / 16 : Nat) : Int)) ∧ l.length ≤ w.length / 16 ∧ (∃ r, l = 1 :: r) ∧ ∀ x ∈ l, ∃ n, dJ w x = some n ∧ n.level = 0 := by
  unfold lA at h
  split at h
  rotate_left
  · cases h
  rename_i hb
  obtain ⟨g1, g2, r, g3, g4, g5⟩ := aBD _ _ _ _ h List.nodup_nil (by simp)
  rw [List.nil_append] at g3
  subst g3
  exact ⟨hb, g1, g2, aGu g1 g2, g4 (by decide), g5⟩
def lowO (w : List Int) (n : Nd) : Option bD := if n.low = 0 then some [] else (recO w n.low).map (·.key)
def lM (w : List Int) (low : bD) : List Int → Nat → bD → Bool
  | [], _, _ => true
  | s :: r, k, last => match recO w s with
    | none => false
    | some x => decide (x.kind = 1) && !ltB x.key low && (decide (k = 0) || ltB last x.key) && lM w low r (k + 1) (if ltB last x.key then x.key else last)
def nD (w : List Int) (i : Nat) (last : bD) (b : Int) : Option bD :=
  match dJ w b with
  | none => none
  | some n => match lowO w n with
    | none => none
    | some low => if ((decide (i = 0) && decide (n.low = 0)) || (decide (0 < i) && ltB last low)) && lM w low (plain n.slots) 0 low then some low else none
def lH (w : List Int) : List Int → Nat → bD → Bool
  | [], _, _ => true
  | b :: r, i, last => match nD w i last b with
    | none => false
    | some low => lH w r (i + 1) low
def iV (hb : Bool) (w : List Int) : Option (List Int) :=
  match lA hb w with
  | none => none
  | some l => if lH w l 0 [] = true then some l else none
end Lam
namespace Lam
open Go
theorem vT : ∀ a : bD, ltB a a = false
  | [] => rfl
  | a :: x => by simp [ltB, vT x]
theorem lV : ∀ {a b c : bD}, ltB a b = true → ltB b c = true → ltB a c = true
  | _, [], _, h, _ => by simp [ltB] at h
  | _, _ :: _, [], _, h => by simp [ltB] at h
  | [], _ :: _, _ :: _, _, _ => rfl
  | a :: x, b :: y, c :: z, h1, h2 => by
    simp only [ltB, Bool.or_eq_true, decide_eq_true_eq, Bool.and_eq_true, beq_iff_eq] at h1 h2 ⊢
    rcases h1 with h1 | ⟨rfl, h1⟩
    · rcases h2 with h2 | ⟨rfl, h2⟩
      · exact .inl (UInt8.lt_trans h1 h2)
      · exact .inl h1
    · rcases h2 with h2 | ⟨rfl, h2⟩
      · exact .inl h2
      · exact .inr ⟨rfl, lV h1 h2⟩
theorem aBe : ∀ (a b : bD), ltB a b = true ∨ a = b ∨ ltB b a = true
  | [], [] => .inr (.inl rfl)
  | [], _ :: _ => .inl rfl
  | _ :: _, [] => .inr (.inr rfl)
  | a :: x, b :: y => by
    simp only [ltB, Bool.or_eq_true, decide_eq_true_eq, Bool.and_eq_true, beq_iff_eq, List.cons.injEq]
    by_cases hab : a < b
    · exact .inl (.inl hab)
    by_cases hba : b < a
    · exact .inr (.inr (.inl hba))
    have e : a = b := UInt8.le_antisymm (UInt8.not_lt.1 hba) (UInt8.not_lt.1 hab)
    subst e
    rcases aBe x y with h | h | h
    · exact .inl (.inr ⟨rfl, h⟩)
    · exact .inr (.inl ⟨rfl, h⟩)
    · exact .inr (.inr (.inr ⟨rfl, h⟩))
def leB (a b : bD) : Prop := ltB b a = false
theorem rD {a b : bD} (h : ltB a b = true) : leB a b := by
  unfold leB
  cases e : ltB b a with
  | false => rfl
  | true => have := lV h e; rw [vT] at this; cases this
theorem yZ (a : bD) : leB a a := vT a
theorem tQ {a b c : bD} (h1 : leB a b) (h2 : leB b c) : leB a c := by
  unfold leB at *
  cases e : ltB c a with
  | false => rfl
  | true =>
    rcases aBe a b with h | rfl | h
    · have := lV e h; rw [h2] at this; cases this
    · rw [h2] at e; cases e
    · rw [h1] at h; cases h
theorem wZ {a b : bD} (h : leB a b) (hne : a ≠ b) : ltB a b = true := by
  rcases aBe a b with e | e | e
  · exact e
  · exact absurd e hne
  · unfold leB at h; rw [h] at e; cases e
def d0 : RecT := ⟨0, [], [], 0⟩
def gX (l : List RecT) (i j : Nat) : List RecT := (l.set i (l.getD j d0)).set j (l.getD i d0)
theorem nM {l : List RecT} {i j : Nat} : (gX l i j).length = l.length := by simp [gX]
theorem tR {l : List RecT} {i j : Nat} (hi : i < l.length) (hj : j < l.length) (k : Nat) : (gX l i j).getD k d0 = if k = j then l.getD i d0 else if k = i then l.getD j d0 else l.getD k d0 := by
  unfold gX
  simp only [List.getD_eq_getElem?_getD, List.getElem?_set, List.length_set]
  by_cases h1 : j = k
  · subst h1; simp [hj]
  · rw [if_neg h1, if_neg (Ne.symm h1)]
    by_cases h2 : i = k
    · subst h2; simp [hi]
    · rw [if_neg h2, if_neg (Ne.symm h2)]
theorem aJp {l : List RecT} {i j : Nat} (hi : i < l.length) (hj : j < l.length) : (gX l i j).Perm l := by
  have h := @List.set_set_perm _ l i j hi hj
  have e1 : l.getD i d0 = l[i] := by rw [List.getD_eq_getElem?_getD, List.getElem?_eq_getElem hi]; rfl
  have e2 : l.getD j d0 = l[j] := by rw [List.getD_eq_getElem?_getD, List.getElem?_eq_getElem hj]; rfl
  unfold gX
  rw [e1, e2]; exact h
def SegP (a b : Nat) (l l' : List RecT) : Prop := l'.Perm l ∧ (∀ k, (k < a ∨ b ≤ k) → l'.getD k d0 = l.getD k d0) ∧ ∀ k, a ≤ k → k < b → ∃ k', a ≤ k' ∧ k' < b ∧ l'.getD k d0 = l.getD k' d0
theorem SegP.len {a b : Nat} {l l' : List RecT} (h : SegP a b l l') : l'.length = l.length := h.1.length_eq
theorem SegP.refl {a b : Nat} {l : List RecT} : SegP a b l l := ⟨.refl _, fun _ _ => rfl, fun k h1 h2 => ⟨k, h1, h2, rfl⟩⟩
theorem SegP.trans {a b : Nat} {l l' l'' : List RecT} (h : SegP a b l l') (h' : SegP a b l' l'') : SegP a b l l'' :=
  ⟨h'.1.trans h.1, fun k hk => (h'.2.1 k hk).trans (h.2.1 k hk), fun k h1 h2 => by
    obtain ⟨k', q1, q2, e⟩ := h'.2.2 k h1 h2
    obtain ⟨k'', r1, r2, e'⟩ := h.2.2 k' q1 q2
    exact ⟨k'', r1, r2, e.trans e'⟩⟩
theorem SegP.mono {a b a' b' : Nat} {l l' : List RecT} (h : SegP a b l l') (ha : a' ≤ a) (hb : b ≤ b') : SegP a' b' l l' :=
  ⟨h.1, fun k hk => h.2.1 k (by omega), fun k h1 h2 => by
    by_cases hk : a ≤ k ∧ k < b
    · obtain ⟨k', q1, q2, e⟩ := h.2.2 k hk.1 hk.2
      exact ⟨k', by omega, by omega, e⟩
    · exact ⟨k, h1, h2, h.2.1 k (by omega)⟩⟩
theorem SegP.swap {a b : Nat} {l : List RecT} {i j : Nat} (h1 : a ≤ i) (h2 : i < b) (h3 : a ≤ j) (h4 : j < b) (hb : b ≤ l.length) : SegP a b l (gX l i j) := by
  have hi : i < l.length := by omega
  have hj : j < l.length := by omega
  refine ⟨aJp hi hj, fun k hk => ?_, fun k q1 q2 => ?_⟩
  · rw [tR hi hj, if_neg (by omega), if_neg (by omega)]
  · rw [tR hi hj]
    split
    · exact ⟨i, h1, h2, rfl⟩
    · split
      · exact ⟨j, h3, h4, rfl⟩
      · exact ⟨k, q1, q2, rfl⟩
def kyL (l : List RecT) (i : Nat) : bD := (l.getD i d0).key
def SegS (a b : Nat) (l : List RecT) : Prop := ∀ p q, a ≤ p → p < q → q < b → leB (kyL l p) (kyL l q)
def InsS (a j i : Nat) (l : List RecT) : Prop := ∀ p q, a ≤ p → p < q → q < i → q ≠ j → leB (kyL l p) (kyL l q)
theorem InsS.begin {a i : Nat} {l : List RecT} (h : SegS a i l) : InsS a i (i + 1) l := fun p q h1 h2 h3 h4 => h p q h1 h2 (by omega)
theorem jN {l : List RecT} {i j : Nat} (hi : i < l.length) (hj : j < l.length) (k : Nat) : kyL (gX l i j) k = if k = j then kyL l i else if k = i then kyL l j else kyL l k := by
  unfold kyL
  rw [tR hi hj]
  split
  · rfl
  · split <;> rfl
theorem InsS.step {a j i : Nat} {l : List RecT} (h : InsS a j i l) (hj : a < j) (hji : j < i) (hi : i ≤ l.length) (hlt : ltB (kyL l j) (kyL l (j - 1)) = true) : InsS a (j - 1) i (gX l j (j - 1)) := by
  intro p q h1 h2 h3 h4
  have hjl : j < l.length := by omega
  have hjl' : j - 1 < l.length := by omega
  rw [jN hjl hjl', jN hjl hjl']
  rw [if_neg (show ¬ q = j - 1 from h4)]
  by_cases hq : q = j
  · subst hq
    rw [if_pos rfl]
    by_cases hp : p = q - 1
    · rw [if_pos hp]; exact rD hlt
    · rw [if_neg hp, if_neg (by omega)]
      exact h p (q - 1) h1 (by omega) (by omega) (by omega)
  · rw [if_neg hq]
    by_cases hp : p = j - 1
    · rw [if_pos hp]; exact h j q (by omega) (by omega) h3 hq
    · rw [if_neg hp]
      by_cases hp2 : p = j
      · rw [if_pos hp2]; exact h (j - 1) q (by omega) (by omega) h3 hq
      · rw [if_neg hp2]; exact h p q h1 h2 h3 hq
theorem InsS.done {a j i : Nat} {l : List RecT} (h : InsS a j i l) (hj : a ≤ j) (hji : j < i) (he : j = a ∨ leB (kyL l (j - 1)) (kyL l j)) : SegS a i l := by
  intro p q h1 h2 h3
  by_cases hq : q = j
  · subst hq
    rcases he with rfl | he
    · omega
    · by_cases hp : p = q - 1
      · subst hp; exact he
      · exact tQ (h p (q - 1) h1 (by omega) (by omega) (by omega)) he
  · exact h p q h1 h2 h3 hq
theorem SegS.one {a b : Nat} {l : List RecT} (h : b ≤ a + 1) : SegS a b l := fun p q h1 h2 h3 => by omega
theorem SegP.same {a b : Nat} {l l' : List RecT} (h : SegP a b l l') {k : Nat} (hk : k < a ∨ b ≤ k) : kyL l' k = kyL l k := by unfold kyL; rw [h.2.1 k hk]
theorem SegP.from {a b : Nat} {l l' : List RecT} (h : SegP a b l l') {k : Nat} (h1 : a ≤ k) (h2 : k < b) : ∃ k', a ≤ k' ∧ k' < b ∧ kyL l' k = kyL l k' := by
  obtain ⟨k', q1, q2, e⟩ := h.2.2 k h1 h2
  exact ⟨k', q1, q2, by unfold kyL; rw [e]⟩
def qB (a m b : Nat) (l : List RecT) : Prop := (∀ k, a ≤ k → k < m → leB (kyL l k) (kyL l m)) ∧ ∀ k, m < k → k < b → leB (kyL l m) (kyL l k)
theorem qB.left {a m b : Nat} {l l' : List RecT} (h : qB a m b l) (s : SegP a m l l') : qB a m b l' := by
  refine ⟨fun k h1 h2 => ?_, fun k h1 h2 => ?_⟩
  · obtain ⟨k', q1, q2, e⟩ := s.from h1 h2
    rw [e, s.same (k := m) (by omega)]; exact h.1 k' q1 q2
  · rw [s.same (k := m) (by omega), s.same (k := k) (by omega)]; exact h.2 k h1 h2
theorem qB.right {a m b : Nat} {l l' : List RecT} (h : qB a m b l) (s : SegP (m + 1) b l l') : qB a m b l' := by
  refine ⟨fun k h1 h2 => ?_, fun k h1 h2 => ?_⟩
  · rw [s.same (k := m) (by omega), s.same (k := k) (by omega)]; exact h.1 k h1 h2
  · obtain ⟨k', q1, q2, e⟩ := s.from (k := k) (by omega) h2
    rw [e, s.same (k := m) (by omega)]; exact h.2 k' (by omega) q2
theorem SegS.keep {a b c d : Nat} {l l' : List RecT} (h : SegS a b l) (s : SegP c d l l') (hd : b ≤ c ∨ d ≤ a) : SegS a b l' := fun p q h1 h2 h3 => by
  rw [s.same (k := p) (by omega), s.same (k := q) (by omega)]; exact h p q h1 h2 h3
theorem qB.sorted {a m b : Nat} {l : List RecT} (h : qB a m b l) (h1 : SegS a m l) (h2 : SegS (m + 1) b l) : SegS a b l := by
  intro p q p1 p2 p3
  by_cases hq : q < m
  · exact h1 p q p1 p2 hq
  · by_cases hqm : q = m
    · subst hqm; exact h.1 p p1 p2
    · by_cases hp : p < m
      · exact tQ (h.1 p p1 hp) (h.2 q (by omega) p3)
      · by_cases hpm : p = m
        · subst hpm; exact h.2 q (by omega) p3
        · exact h2 p q (by omega) p2 p3
end Lam
namespace Lam
open Go
def aBf (w : List Int) (b : Int) : Option (Int × bD) := match dJ w b with
  | none => none
  | some n => match lowO w n with
    | none => none
    | some l => some (n.level, l)
def xV (w : List Int) (key : bD) (out : Int) (s : Int) : Int := match recO w s with
  | none => out
  | some x => if x.kind = 2 ∧ ltB key x.key = false then x.child else out
def aAF (w : List Int) (key : bD) (n : Nd) : Int := n.slots.foldl (xV w key) 0
def aKG (w : List Int) (key : bD) (n : Nd) : Option Int := match aBf w (aAF w key n) with
  | none => none
  | some (lv, lo) => if aAF w key n = 0 ∨ lv ≠ n.level - 1 ∨ ltB key lo = true then none else some (aAF w key n)
def aBg (w : List Int) (b : Int) (key : bD) (level : Int) (n : Nd) : Option Int := if level < n.level then aKG w key n else some b
def lS (w : List Int) (b : Int) (key : bD) (level : Int) : Option Int := match dJ w b with
  | none => none
  | some n => if n.level < level then none else
    if n.next = 0 then aBg w b key level n else match aBf w n.next with
      | none => none
      | some (lv, lo) => if n.next = b ∨ lv ≠ n.level then none else if ltB key lo = false then some n.next else aBg w b key level n
end Lam
namespace Lam
open Go Go.Proofs
def aKH : TyD := (.tup [])
def aKI : TyD := .func
def aIe : TyD := (.int .i64)
def aB : TyD := (.int .i64)
def lB : TyD := .bool
def nH : TyD := (.int .u8)
def cE : TyD := .str
def aBE : TyD := .iface
def aK : TyD := (.slice (.int .i64))
def cG : TyD := (.slice .pend)
def aM : TyD := (.strct [(.slice (.int .i64)), (.slice (.int .i64)), (.slice .pend)])
def bY : TyD := (.strct [(.int .i64), (.int .i64), (.int .i64), (.slice (.int .i64)), .bool])
def aU : TyD := (.strct [.str, (.int .i64), (.int .i64), (.int .i64), (.strct [(.int .i64), (.int .i64), (.int .i64), (.slice (.int .i64)), .bool]), .str, .bool])
def rR : TyD := (.tup [(.strct [(.slice (.int .i64)), (.slice (.int .i64)), (.slice .pend)]), (.strct [.str, (.int .i64), (.int .i64), (.int .i64), (.strct [(.int .i64), (.int .i64), (.int .i64), (.slice (.int .i64)), .bool]), .str, .bool])])
def cY : TyD := (.strct [(.int .i64), (.int .i64), .bool])
def aAG : TyD := .other
def kF : TyD := (.slice (.int .u8))
def iE : TyD := (.slice .pair)
def zN : TyD := (.strct [.str, .str, (.int .i64), (.int .i64), (.int .i64), (.int .i64), (.strct [(.int .i64), (.int .i64), (.int .i64), (.slice (.int .i64)), .bool]), .str, (.slice .pair)])
def cN : TyD := (.int .i64)
def pU : TyD := (.tup [(.strct [.str, .str, (.int .i64), (.int .i64), (.int .i64), (.int .i64), (.strct [(.int .i64), (.int .i64), (.int .i64), (.slice (.int .i64)), .bool]), .str, (.slice .pair)]), (.int .i64)])
def rE : TyD := (.tup [(.strct [(.slice (.int .i64)), (.slice (.int .i64)), (.slice .pend)]), (.strct [.str, .str, (.int .i64), (.int .i64), (.int .i64), (.int .i64), (.strct [(.int .i64), (.int .i64), (.int .i64), (.slice (.int .i64)), .bool]), .str, (.slice .pair)])])
def lT : TyD := (.strct [.str, .str])
def tS : TyD := (.tup [(.slice (.int .i64)), (.int .i64)])
def pV : TyD := (.tup [(.slice .pair), (.int .i64)])
def qC : TyD := (.tup [(.strct [.str, (.int .i64), (.int .i64), (.int .i64), (.strct [(.int .i64), (.int .i64), (.int .i64), (.slice (.int .i64)), .bool]), .str, .bool]), (.int .i64)])
def sD : TyD := (.tup [(.strct [(.slice (.int .i64)), (.slice (.int .i64)), (.slice .pend)]), (.int .i64)])
def zO : TyD := (.tup [.str, .bool])
def xW : TyD := .func
def lX : TyD := (.map .ib)
def rS : TyD := .func
def iR : TyD := (.arr 8 .fnk)
def eZ : TyD := .ptr
def cH : TyD := (.strct [(.strct [(.slice (.int .i64)), (.slice (.int .i64)), (.slice .pend)]), (.strct [.str, (.int .i64), (.int .i64), (.int .i64), (.strct [(.int .i64), (.int .i64), (.int .i64), (.slice (.int .i64)), .bool]), .str, .bool])])
def sE : TyD := (.tup [(.int .i64), (.int .i64), (.int .i64)])
def rT : TyD := (.tup [(.strct [(.int .i64), (.int .i64), (.int .i64), (.slice (.int .i64)), .bool]), (.int .i64)])
def bA : TyD := (.strct [(.int .i64), (.int .i64), (.int .i64), (.int .i64), (.slice (.int .i64))])
def rU : TyD := (.tup [(.strct [(.int .i64), (.int .i64), (.int .i64), (.int .i64), (.slice (.int .i64))]), (.int .i64)])
def tT : TyD := (.tup [.str, (.int .i64)])
def wO : TyD := (.tup [(.int .i64), (.int .i64)])
def pE : TyD := .func
def sF : TyD := .func
def tZ : TyD := .func
def sG : TyD := .func
def dF : TyD := (.strct [(.int .i64), (.int .i64), (.int .i64), (.int .i64)])
def zP : TyD := .ptr
def fE : TyD := (.strct [(.strct [(.int .i64), (.int .i64), (.int .i64), (.slice (.int .i64)), .bool]), (.int .i64)])
def fS : TyD := (.strct [(.int .i64), (.int .i64), (.int .i64)])
def rV : TyD := (.strct [])
def aJ : TyD := (.strct [(.int .i64), .str, .str, (.int .i64)])
def sH : TyD := (.tup [(.strct [(.int .i64), .str, .str, (.int .i64)]), (.int .i64)])
def rW : TyD := (.int .u64)
def uA : TyD := (.tup [(.int .i64), .str, .bool])
def aS : TyD := (.slice .rcd)
def tU : TyD := .func
def kA : TyD := (.slice .mic)
def dT : TyD := (.arr 16 (.int .i64))
def lN : TyD := (.map .sb)
def oB : TyD := .func
def kG : TyD := (.int .u32)
def jT : TyD := (.arr 256 (.int .u32))
def xX : TyD := .ptr
def lK : TyD := (.int .u64)
def xY : TyD := .ptr
def jH : TyD := (.strct [(.strct [(.slice (.int .i64)), (.slice (.int .i64)), (.slice .pend)])])
def fD : TyD := (.map .ifn)
def mY : TyD := .func
def qD : TyD := .func
def uB : TyD := .func
def mD : TyD := (.int .i64)
def pW : TyD := (.tup [(.int .i64), (.int .i64)])
def aDp : TyD := (.tup [(.int .i64), .bool])
def rX : TyD := .func
def dE : TyD := (.int .u64)
def aIf : TyD := .ptr
def mK : TyD := (.map .ii)
def sI : TyD := .ptr
def aEN : TyD := (.tup [(.int .i64), (.int .i64)])
def sJ : TyD := .func
def xZ : TyD := .func
def qE : TyD := .func
attribute [go_sem] aKH aKI aIe aB lB nH cE aBE aK cG aM bY aU rR cY aAG kF iE zN cN pU rE lT tS pV qC sD zO xW lX rS iR eZ cH sE rT bA rU tT wO pE sF tZ sG dF zP fE fS rV aJ sH rW uA aS tU kA dT lN oB kG jT xX lK xY jH fD mY qD uB mD pW aDp rX dE aIf mK sI aEN sJ xZ qE
def tab : TypeId → TyD
 | 0 => aKH
 | 1 => aKI
 | 2 => aIe
 | 3 => aB
 | 4 => lB
 | 5 => nH
 | 9 => cE
 | 20 => aBE
 | 22 => aK
 | 23 => cG
 | 25 => aM
 | 27 => bY
 | 29 => aU
 | 32 => rR
 | 37 => cY
 | 39 => aAG
 | 40 => kF
 | 41 => iE
 | 43 => zN
 | 44 => cN
 | 45 => pU
 | 47 => rE
 | 52 => lT
 | 56 => tS
 | 60 => pV
 | 63 => qC
 | 65 => sD
 | 67 => zO
 | 76 => xW
 | 78 => lX
 | 79 => rS
 | 80 => iR
 | 82 => eZ
 | 84 => cH
 | 86 => sE
 | 89 => rT
 | 96 => bA
 | 97 => rU
 | 99 => tT
 | 102 => wO
 | 105 => pE
 | 106 => sF
 | 108 => tZ
 | 110 => sG
 | 114 => dF
 | 118 => zP
 | 120 => fE
 | 126 => fS
 | 128 => rV
 | 133 => aJ
 | 134 => sH
 | 136 => rW
 | 138 => uA
 | 144 => aS
 | 147 => tU
 | 150 => kA
 | 153 => dT
 | 159 => lN
 | 162 => oB
 | 163 => kG
 | 164 => jT
 | 167 => xX
 | 175 => lK
 | 177 => xY
 | 179 => jH
 | 180 => fD
 | 182 => mY
 | 183 => qD
 | 184 => uB
 | 187 => mD
 | 188 => pW
 | 192 => aDp
 | 198 => rX
 | 200 => dE
 | 204 => aIf
 | 207 => mK
 | 211 => sI
 | 212 => aEN
 | 217 => sJ
 | 218 => xZ
 | 221 => qE
 | _ => .other
theorem aKJ : aIw Tryz.prog tab := by
 intro T
 unfold tab
 split <;> kernel_rfl
theorem aKK (T : TypeId) : (tab T).shallow := by
 unfold tab
 split <;> (unfold TyD.shallow; decide)
theorem mixed : Tryz.prog.follows .mixedOrders = true := by kernel_rfl
def ctx (F : List (FuncId × aE)) (S : List (FuncId × Con)) (lp : Nat → bU) : Ctx := ⟨tab, mQ F, oJ S, fun _ _ _ _ _ => False, lp, false, fun _ _ _ _ => False⟩
def ctxI (F : List (FuncId × aE)) (S : List (FuncId × Con)) (Is : List (FuncId × (Con → Con))) (lp : Nat → bU) : Ctx := ⟨tab, mQ F, oJ S, qL Is, lp, false, fun _ _ _ _ => False⟩
@[go_sem] theorem aVr (F : List (FuncId × aE)) (S : List (FuncId × Con)) (lp : Nat → bU) : (ctx F S lp).drawn = false := (rfl)
@[go_sem] theorem aSh (F : List (FuncId × aE)) (S : List (FuncId × Con)) (Is : List (FuncId × (Con → Con))) (lp : Nat → bU) : (ctxI F S Is lp).drawn = false := (rfl)
@[go_sem] theorem aVs (F : List (FuncId × aE)) (S : List (FuncId × Con)) (Is : List (FuncId × (Con → Con))) (lp : Nat → bU) : (ctxI F S Is lp).envF = mQ F := (rfl)
@[go_sem] theorem aVt (F : List (FuncId × aE)) (S : List (FuncId × Con)) (Is : List (FuncId × (Con → Con))) (lp : Nat → bU) : (ctxI F S Is lp).envS = oJ S := (rfl)
@[go_sem] theorem aSi (F : List (FuncId × aE)) (S : List (FuncId × Con)) (Is : List (FuncId × (Con → Con))) (lp : Nat → bU) : (ctxI F S Is lp).iterS = qL Is := (rfl)
@[go_sem] theorem aLN (F : List (FuncId × aE)) (S : List (FuncId × Con)) (lp : Nat → bU) : (ctx F S lp).envF = mQ F := (rfl)
@[go_sem] theorem aYf (F : List (FuncId × aE)) (S : List (FuncId × Con)) (lp : Nat → bU) : (ctx F S lp).envS = oJ S := (rfl)
theorem bQ {F : List (FuncId × aE)} {S : List (FuncId × Con)} (hF : ∀ p ∈ F, bN Tryz.prog p.1 p.2) (hS : ∀ p ∈ S, cP Tryz.prog p.1 p.2) (lp : Nat → bU) : Ok Tryz.prog (ctx F S lp) :=
 ⟨⟨⟨aKJ, aKK, aBY hF⟩, aBZ hS, rfl, mixed, aMP⟩, fun _ _ _ _ h => h⟩
theorem aDU {F : List (FuncId × aE)} {S : List (FuncId × Con)} {Is : List (FuncId × (Con → Con))} (hF : ∀ p ∈ F, bN Tryz.prog p.1 p.2) (hS : ∀ p ∈ S, cP Tryz.prog p.1 p.2) (hI : ∀ p ∈ Is, sX Tryz.prog p.1 p.2) (lp : Nat → bU) : Ok Tryz.prog (ctxI F S Is lp) :=
 ⟨⟨⟨aKJ, aKK, aBY hF⟩, aBZ hS, rfl, mixed, aEA hI⟩, fun _ _ _ _ h => h⟩
end Lam
namespace Lam
open Go Go.Proofs
def fT.loops : Nat → bU
 | _ => ⟨[], [], [], [], [], []⟩
def fT.H (c : Ctx) (t0 : AV) (h : List AObj) (K : AOut → List AObj → Prop) : Prop :=
 cS cN h fun t2 h =>
 defX t2 fun dp =>
 aP false c (.fn (.func 45) [] []) [t0] h (fun t4 h =>
 runH (aR cN h t2 (.int .i64 0)) h fun _ h =>
 dA (fitD cN (aD h t2)) fun r0 => K (.ret r0) h)
 (fun v h => yT 128 110 v dp h fun h => dA (fitD cN (aD h t2)) fun r0 => K (.ret r0) h)
def eF.loops : Nat → bU
 | _ => ⟨[], [], [], [], [], []⟩
def eF.H (c : Ctx) (t0 : AV) (h : List AObj) (K : AOut → List AObj → Prop) : Prop :=
 cS cN h fun t3 h =>
 defX t3 fun dp =>
 aP false c (.fn (.func 50) [] []) [t0] h (fun t5 h =>
 runH (aR cN h t3 (.int .i64 0)) h fun _ h =>
 dA (fitD cN (aD h t3)) fun r1 => K (.ret (.tup [t5, r1])) h)
 (fun v h => yT 128 110 v dp h fun h => dA (fitD cN (aD h t3)) fun r1 => K (.ret (.tup [(.sl true (.ints .i64 [])), r1])) h)
def iA.loops : Nat → bU
 | 1 => ⟨[], [], [], [(3, none), (2, some [11, 13])], [], []⟩
 | _ => ⟨[], [], [], [], [], []⟩
def iA.H (c : Ctx) (t0 : AV) (h : List AObj) (K : AOut → List AObj → Prop) : Prop :=
 runD (binD aB .lss t0 (.int .i64 2)) h fun t10 h =>
 aL (fun (J1 : AV → AV → List AObj → Prop) =>
 bF t10 false
 (runD (binD aB .gtr t0 (.int .i64 256)) h fun t13 h =>
 J1 (.bool false) t13 h)
 (J1 (.bool true) .und h))
 (fun t11 t13 h => runD (bT t11 (.bool true) t13) h fun t14 h =>
 bE t14
 (K (.ret (.tup [(.sl true (.ints .i64 [])), (.int .i64 1)])) h)
 (aP false c (.fn (.func 56) [] []) [t0, (.int .i64 1)] h (fun t17 h =>
 runD (aW t17 0) h fun t18 h =>
 runD (aW t17 1) h fun t19 h =>
 runD (gY bA []) h fun t21 h =>
 aP false c (.fn (.func 57) [] []) [t21] h (fun t22 h =>
 runD (aW t22 0) h fun t23 h =>
 runD (aW t22 1) h fun t24 h =>
 runD (binD aB .mul (.int .i64 16) t0) h fun t26 h =>
 runD (kB aK t26 t26 h.length) h fun t27 h =>
 runM (mA aK h t27 t18) h fun t30 h =>
 runD (eH aK h t27 (some (.int .i64 16)) none none) h fun t32 h =>
 runM (mA aK h t32 t23) h fun t34 h =>
 K (.ret (.tup [t27, (.int .i64 0)])) h)
 (fun v h => K (.pan v) h))
 (fun v h => K (.pan v) h)))
def dZ.loops : Nat → bU
 | 4 => ⟨[4, 17], [false, false], [0, 3, 15, 16], [], [], []⟩
 | 8 => ⟨[], [], [], [(3, none), (3, some [30, 33]), (2, none), (7, some [35, 42])], [], []⟩
 | 11 => ⟨[4, 50], [false, false], [0, 3, 8, 15, 16, 17, 48, 49], [], [], []⟩
 | 14 => ⟨[], [], [], [(3, none), (3, some [63, 66]), (2, none), (4, some [68, 72]), (2, none), (8, some [74, 82])], [], []⟩
 | _ => ⟨[], [], [], [], [], []⟩
def dZ.L2 (c : Ctx) (J6 : AV → AV → AV → AV → AV → AV → List AObj → Prop) (K : AOut → List AObj → Prop) (lv : List AV) (h0 : List AObj) (n0 : Nat) (c0 : AV) (c3 : AV) (c8 : AV) (c15 : AV) (c16 : AV) (c17 : AV) (c48 : AV) (c49 : AV) : Prop :=
 ∃ I : Nat → List AV → List AObj → Prop, (∃ n, I n lv h0) ∧ ∀ n h, ∀ t4, ∀ t50, I n [t4, t50] h →
 runD (binD aB .lss t50 c49) h fun t51 h =>
 bE t51
 (runD (aG aK h c48 t50) h fun t53 h =>
 runD (fitD aB (aD h t53)) h fun t54 h =>
 aP false c (.fn (.func 79) [] []) [c0, t54] h (fun t58 h =>
 runD (aW t58 0) h fun t59 h =>
 runD (aW t58 1) h fun t60 h =>
 cS aJ h fun t11 h =>
 runH (aR aJ h t11 t59) h fun _ h =>
 runD (binD cN .eql t60 (.int .i64 0)) h fun t62 h =>
 aL (fun (J7 : AV → AV → List AObj → Prop) =>
 bF t62 true
 (runD (aC aJ t11 0) h fun t64 h =>
 runD (fitD aB (aD h t64)) h fun t65 h =>
 runD (binD aB .eql t65 (.int .i64 1)) h fun t66 h =>
 J7 (.bool true) t66 h)
 (J7 (.bool false) .und h))
 (fun t63 t66 h => runD (bT t63 t66 (.bool false)) h fun t67 h =>
 aL (fun (J8 : AV → AV → List AObj → Prop) =>
 bF t67 true
 (runD (aC aJ t11 1) h fun t69 h =>
 runD (fitD cE (aD h t69)) h fun t70 h =>
 runD (binD cE .geq t70 c8) h fun t72 h =>
 J8 (.bool true) t72 h)
 (J8 (.bool false) .und h))
 (fun t68 t72 h => runD (bT t68 t72 (.bool false)) h fun t73 h =>
 aL (fun (J9 : AV → AV → List AObj → Prop) =>
 bF t73 true
 (runD (binD aB .eql t50 (.int .i64 0)) h fun t76 h =>
 aL (fun (J10 : AV → AV → List AObj → Prop) =>
 bF t76 false
 (runD (aC aJ t11 1) h fun t78 h =>
 runD (fitD cE (aD h t78)) h fun t79 h =>
 runD (binD cE .gtr t79 t4) h fun t81 h =>
 J10 (.bool false) t81 h)
 (J10 (.bool true) .und h))
 (fun t77 t81 h => runD (bT t77 (.bool true) t81) h fun t82 h =>
 J9 (.bool true) t82 h))
 (J9 (.bool false) .und h))
 (fun t74 t82 h => runD (bT t74 t82 (.bool false)) h fun t83 h =>
 aP false c (.fn (.func 77) [] []) [t83] h (fun t84 h =>
 runD (aC aJ t11 1) h fun t86 h =>
 runD (fitD cE (aD h t86)) h fun t87 h =>
 runD (maxD t4 t87) h fun t88 h =>
 runD (binD aB .add t50 (.int .i64 1)) h fun t89 h =>
 (∃ m, m < n ∧ I m (AV.norms n0 h [t88, t89]) (cJ n0 h)) ∧ AV.norms n0 h [c0, c3, c8, c15, c16, c17, c48, c49] = [c0, c3, c8, c15, c16, c17, c48, c49])
 (fun v h => K (.pan v) h)))))
 (fun v h => K (.pan v) h))
 (J6 c0 c3 c8 c15 c16 c17 h)
def dZ.L1 (c : Ctx) (J1 : AV → List AObj → Prop) (K : AOut → List AObj → Prop) (lv : List AV) (h0 : List AObj) (n0 : Nat) (c0 : AV) (c3 : AV) (c15 : AV) (c16 : AV) : Prop :=
 ∃ I : Nat → List AV → List AObj → Prop, (∃ n, I n lv h0) ∧ ∀ n h, ∀ t4, ∀ t17, I n [t4, t17] h →
 runD (binD aB .lss t17 c16) h fun t18 h =>
 bE t18
 (aL (fun (J2 : AV → AV → AV → AV → AV → AV → List AObj → Prop) =>
 runD (aG aK h c15 t17) h fun t20 h =>
 runD (fitD aB (aD h t20)) h fun t21 h =>
 aP false c (.fn (.func 75) [] []) [c0, t21] h (fun t24 h =>
 cS bA h fun t7 h =>
 runH (aR bA h t7 t24) h fun _ h =>
 runD (fitD bA (aD h t7)) h fun t26 h =>
 aP false c (.fn (.func 76) [] []) [c0, t26] h (fun t27 h =>
 runD (binD aB .eql t17 (.int .i64 0)) h fun t29 h =>
 aL (fun (J3 : AV → AV → List AObj → Prop) =>
 bF t29 true
 (runD (aC bA t7 3) h fun t31 h =>
 runD (fitD aB (aD h t31)) h fun t32 h =>
 runD (binD aB .eql t32 (.int .i64 0)) h fun t33 h =>
 J3 (.bool true) t33 h)
 (J3 (.bool false) .und h))
 (fun t30 t33 h => runD (bT t30 t33 (.bool false)) h fun t34 h =>
 aL (fun (J4 : AV → AV → List AObj → Prop) =>
 bF t34 false
 (runD (binD aB .gtr t17 (.int .i64 0)) h fun t37 h =>
 aL (fun (J5 : AV → AV → List AObj → Prop) =>
 bF t37 true
 (runD (binD cE .gtr t27 t4) h fun t41 h =>
 J5 (.bool true) t41 h)
 (J5 (.bool false) .und h))
 (fun t38 t41 h => runD (bT t38 t41 (.bool false)) h fun t42 h =>
 J4 (.bool false) t42 h))
 (J4 (.bool true) .und h))
 (fun t35 t42 h => runD (bT t35 (.bool true) t42) h fun t43 h =>
 aP false c (.fn (.func 77) [] []) [t43] h (fun t44 h =>
 runD (aC bA t7 4) h fun t46 h =>
 runD (fitD aK (aD h t46)) h fun t47 h =>
 aP false c (.fn (.func 78) [] []) [t47] h (fun t48 h =>
 runD (lenD aK h t48) h fun t49 h =>
 aL (fun (J6 : AV → AV → AV → AV → AV → AV → List AObj → Prop) =>
 dM [false, false] [t27, (.int .i64 0)] h fun lv h => dZ.L2 c J6 K (AV.norms h.length h lv) (cJ h.length h) h.length (AV.norm h.length h c0) (AV.norm h.length h c3) (AV.norm h.length h t27) (AV.norm h.length h c15) (AV.norm h.length h c16) (AV.norm h.length h t17) (AV.norm h.length h t48) (AV.norm h.length h t49))
 (fun t0 t3 t8 t15 t16 t17 h => J2 t0 t3 t8 t15 t16 t17 h))
 (fun v h => K (.pan v) h))
 (fun v h => K (.pan v) h))))
 (fun v h => K (.pan v) h))
 (fun v h => K (.pan v) h))
 (fun t0 t3 t4 t15 t16 t17 h => runD (binD aB .add t17 (.int .i64 1)) h fun t91 h =>
 (∃ m, m < n ∧ I m (AV.norms n0 h [t4, t91]) (cJ n0 h)) ∧ AV.norms n0 h [t0, t3, t15, t16] = [c0, c3, c15, c16]))
 (J1 c3 h)
def dZ.H (c : Ctx) (t0 : AV) (h : List AObj) (K : AOut → List AObj → Prop) : Prop :=
 aP false c (.fn (.func 50) [] []) [t0] h (fun t14 h =>
 runD (lenD aK h t14) h fun t16 h =>
 aL (fun (J1 : AV → List AObj → Prop) =>
 dM [false, false] [(.str []), (.int .i64 0)] h fun lv h => dZ.L1 c J1 K (AV.norms h.length h lv) (cJ h.length h) h.length (AV.norm h.length h t0) (AV.norm h.length h t14) (AV.norm h.length h t14) (AV.norm h.length h t16))
 (fun t3 h => K (.ret t3) h))
 (fun v h => K (.pan v) h)
def dG.loops : Nat → bU
 | _ => ⟨[], [], [], [], [], []⟩
def dG.H (c : Ctx) (t0 : AV) (t1 : AV) (h : List AObj) (K : AOut → List AObj → Prop) : Prop :=
 cS cN h fun t5 h =>
 defX t5 fun dp =>
 aP false c (.fn (.func 75) [] []) [t0, t1] h (fun t9 h =>
 aP false c (.fn (.func 76) [] []) [t0, t9] h (fun t10 h =>
 runH (aR cN h t5 (.int .i64 0)) h fun _ h =>
 dA (fitD cN (aD h t5)) fun r1 => K (.ret (.tup [t10, r1])) h)
 (fun v h => yT 128 110 v dp h fun h => dA (fitD cN (aD h t5)) fun r1 => K (.ret (.tup [(.str []), r1])) h))
 (fun v h => yT 128 110 v dp h fun h => dA (fitD cN (aD h t5)) fun r1 => K (.ret (.tup [(.str []), r1])) h)
def dH.loops : Nat → bU
 | 4 => ⟨[2, 6], [true, false], [0], [], [], []⟩
 | 6 => ⟨[], [], [], [(4, none), (4, some [25, 29])], [], []⟩
 | _ => ⟨[], [], [], [], [], []⟩
def dH.L1 (c : Ctx) (J1 : AV → List AObj → Prop) (K : AOut → List AObj → Prop) (lv : List AV) (h0 : List AObj) (n0 : Nat) (c0 : AV) : Prop :=
 ∃ I : Nat → List AV → List AObj → Prop, (∃ n, I n lv h0) ∧ ∀ n h, ∀ t2, ∀ t6, I n [t2, t6] h →
 runD (binD aB .neq t6 (.int .i64 0)) h fun t18 h =>
 bE t18
 (aP false c (.fn (.func 75) [] []) [c0, t6] h (fun t21 h =>
 cS bA h fun t7 h =>
 runH (aR bA h t7 t21) h fun _ h =>
 runD (aC bA t7 0) h fun t22 h =>
 runD (fitD aB (aD h t22)) h fun t23 h =>
 runD (binD aB .eql t23 (.int .i64 0)) h fun t24 h =>
 aL (fun (J2 : AV → AV → List AObj → Prop) =>
 bF t24 true
 (aP false c (.fn (.func 83) [] []) [t2, t6] h (fun t28 h =>
 runD (unD .not t28) h fun t29 h =>
 J2 (.bool true) t29 h)
 (fun v h => K (.pan v) h))
 (J2 (.bool false) .und h))
 (fun t25 t29 h => runD (bT t25 t29 (.bool false)) h fun t30 h =>
 aP false c (.fn (.func 77) [] []) [t30] h (fun t31 h =>
 runD (gC aK 1 [(0, t6)] h.length) h fun t34 h =>
 kC (gS aK h t2 t34 h.length) (iC aK h t2 t34) h fun t35 h =>
 runD (aC bA t7 2) h fun t36 h =>
 runD (fitD aB (aD h t36)) h fun t37 h =>
 sepB t2 [t36] = true ∧ (∃ m, m < n ∧ I m (AV.norms n0 h [t35, t37]) (cJ n0 h)) ∧ AV.norms n0 h [c0] = [c0])
 (fun v h => K (.pan v) h)))
 (fun v h => K (.pan v) h))
 (J1 t2 h)
def dH.H (c : Ctx) (t0 : AV) (h : List AObj) (K : AOut → List AObj → Prop) : Prop :=
 aP false c (.fn (.func 38) [] []) [t0] h (fun t10 h =>
 runD (aW t10 0) h fun t11 h =>
 runD (aW t10 1) h fun t12 h =>
 runD (aW t10 2) h fun t13 h =>
 runD (binD cN .eql t13 (.int .i64 0)) h fun t15 h =>
 aP false c (.fn (.func 77) [] []) [t15] h (fun t16 h =>
 aL (fun (J1 : AV → List AObj → Prop) =>
 dM [true, false] [(.sl true (.ints .i64 [])), (.int .i64 1)] h fun lv h => dH.L1 c J1 K (AV.norms h.length h lv) (cJ h.length h) h.length (AV.norm h.length h t0))
 (fun t2 h => K (.ret t2) h))
 (fun v h => K (.pan v) h))
 (fun v h => K (.pan v) h)
def cQ.loops : Nat → bU
 | _ => ⟨[], [], [], [], [], []⟩
def cQ.H (c : Ctx) (t0 : AV) (t1 : AV) (h : List AObj) (K : AOut → List AObj → Prop) : Prop :=
 cS bA h fun t4 h =>
 aP false c (.fn (.func 46) [] []) [t0, t1] h (fun t10 h =>
 runD (aW t10 0) h fun t11 h =>
 runD (aW t10 1) h fun t12 h =>
 cS bA h fun t5 h =>
 runH (aR bA h t5 t11) h fun _ h =>
 runD (binD cN .eql t12 (.int .i64 0)) h fun t14 h =>
 aP false c (.fn (.func 77) [] []) [t14] h (fun t15 h =>
 runD (fitD bA (aD h t5)) h fun t16 h =>
 runH (aR bA h t4 t16) h fun _ h =>
 dA (fitD bA (aD h t4)) fun r0 => K (.ret r0) h)
 (fun v h => K (.pan v) h))
 (fun v h => K (.pan v) h)
def dI.loops : Nat → bU
 | _ => ⟨[], [], [], [], [], []⟩
def dI.H (c : Ctx) (t0 : AV) (t1 : AV) (h : List AObj) (K : AOut → List AObj → Prop) : Prop :=
 boxW bA t1 h fun t3 h =>
 runD (aC bA t3 3) h fun t5 h =>
 runD (fitD aB (aD h t5)) h fun t6 h =>
 runD (binD aB .eql t6 (.int .i64 0)) h fun t7 h =>
 bE t7
 (K (.ret (.str [])) h)
 (runD (aC bA t3 3) h fun t9 h =>
 runD (fitD aB (aD h t9)) h fun t10 h =>
 aP false c (.fn (.func 97) [] []) [t0, t10] h (fun t11 h =>
 K (.ret t11) h)
 (fun v h => K (.pan v) h))
def cF.loops : Nat → bU
 | _ => ⟨[], [], [], [], [], []⟩
def cF.H (c : Ctx) (t0 : AV) (h : List AObj) (K : AOut → List AObj → Prop) : Prop :=
 runD (unD .not t0) h fun t3 h =>
 aL (fun (J1 : List AObj → Prop) =>
 bE t3
 (runD (gY rV []) h fun t4 h =>
 K (.pan (.iface 128 t4)) h)
 (J1 h))
 (fun h => K (.ret (.tup [])) h)
def eJ.loops : Nat → bU
 | _ => ⟨[], [], [], [], [], []⟩
def eJ.H (c : Ctx) (t0 : AV) (t1 : AV) (h : List AObj) (K : AOut → List AObj → Prop) : Prop :=
 aP false c (.fn (.func 79) [] []) [t0, t1] h (fun t10 h =>
 runD (aW t10 0) h fun t11 h =>
 runD (aW t10 1) h fun t12 h =>
 cS aJ h fun t5 h =>
 runH (aR aJ h t5 t11) h fun _ h =>
 runD (binD cN .eql t12 (.int .i64 0)) h fun t14 h =>
 aP false c (.fn (.func 77) [] []) [t14] h (fun t15 h =>
 runD (aC aJ t5 1) h fun t16 h =>
 runD (fitD cE (aD h t16)) h fun t17 h =>
 K (.ret t17) h)
 (fun v h => K (.pan v) h))
 (fun v h => K (.pan v) h)
theorem fT.eq (F : List (FuncId × aE)) (S : List (FuncId × Con)) (t0 : AV) (h : List AObj) (K : AOut → List AObj → Prop) : aBb (ctx F S fT.loops) Tryz.f22 44 128 110 [t0] h K = fT.H (ctx F S fT.loops) t0 h K := by kernel_rfl
theorem eF.eq (F : List (FuncId × aE)) (S : List (FuncId × Con)) (t0 : AV) (h : List AObj) (K : AOut → List AObj → Prop) : aBb (ctx F S eF.loops) Tryz.f24 44 128 110 [t0] h K = eF.H (ctx F S eF.loops) t0 h K := by kernel_rfl
theorem iA.eq (F : List (FuncId × aE)) (S : List (FuncId × Con)) (t0 : AV) (h : List AObj) (K : AOut → List AObj → Prop) : funW (ctx F S iA.loops) Tryz.f32 [t0] h K = iA.H (ctx F S iA.loops) t0 h K := by kernel_rfl
theorem dZ.eq (F : List (FuncId × aE)) (S : List (FuncId × Con)) (t0 : AV) (h : List AObj) (K : AOut → List AObj → Prop) : funW (ctx F S dZ.loops) Tryz.f45 [t0] h K = dZ.H (ctx F S dZ.loops) t0 h K := by kernel_rfl
theorem dG.eq (F : List (FuncId × aE)) (S : List (FuncId × Con)) (t0 t1 : AV) (h : List AObj) (K : AOut → List AObj → Prop) : aBb (ctx F S dG.loops) Tryz.f47 44 128 110 [t0, t1] h K = dG.H (ctx F S dG.loops) t0 t1 h K := by kernel_rfl
theorem dH.eq (F : List (FuncId × aE)) (S : List (FuncId × Con)) (t0 : AV) (h : List AObj) (K : AOut → List AObj → Prop) : funW (ctx F S dH.loops) Tryz.f50 [t0] h K = dH.H (ctx F S dH.loops) t0 h K := by kernel_rfl
theorem cQ.eq (F : List (FuncId × aE)) (S : List (FuncId × Con)) (t0 t1 : AV) (h : List AObj) (K : AOut → List AObj → Prop) : funW (ctx F S cQ.loops) Tryz.f75 [t0, t1] h K = cQ.H (ctx F S cQ.loops) t0 t1 h K := by kernel_rfl
theorem dI.eq (F : List (FuncId × aE)) (S : List (FuncId × Con)) (t0 t1 : AV) (h : List AObj) (K : AOut → List AObj → Prop) : funW (ctx F S dI.loops) Tryz.f76 [t0, t1] h K = dI.H (ctx F S dI.loops) t0 t1 h K := by kernel_rfl
theorem cF.eq (F : List (FuncId × aE)) (S : List (FuncId × Con)) (t0 : AV) (h : List AObj) (K : AOut → List AObj → Prop) : funW (ctx F S cF.loops) Tryz.f77 [t0] h K = cF.H (ctx F S cF.loops) t0 h K := by kernel_rfl
theorem eJ.eq (F : List (FuncId × aE)) (S : List (FuncId × Con)) (t0 t1 : AV) (h : List AObj) (K : AOut → List AObj → Prop) : funW (ctx F S eJ.loops) Tryz.f97 [t0, t1] h K = eJ.H (ctx F S eJ.loops) t0 t1 h K := by kernel_rfl
theorem fT.at : Tryz.prog.funcs[22]? = some Tryz.f22 := by kernel_rfl
theorem fT.nm : (Tryz.f22.name == "runtime.NumGoroutine") = false := by kernel_rfl
theorem fT.bd : Tryz.f22.body.isNone = false := by kernel_rfl
theorem eF.at : Tryz.prog.funcs[24]? = some Tryz.f24 := by kernel_rfl
theorem eF.nm : (Tryz.f24.name == "runtime.NumGoroutine") = false := by kernel_rfl
theorem eF.bd : Tryz.f24.body.isNone = false := by kernel_rfl
theorem iA.at : Tryz.prog.funcs[32]? = some Tryz.f32 := by kernel_rfl
theorem iA.nm : (Tryz.f32.name == "runtime.NumGoroutine") = false := by kernel_rfl
theorem iA.bd : Tryz.f32.body.isNone = false := by kernel_rfl
theorem dZ.at : Tryz.prog.funcs[45]? = some Tryz.f45 := by kernel_rfl
theorem dZ.nm : (Tryz.f45.name == "runtime.NumGoroutine") = false := by kernel_rfl
theorem dZ.bd : Tryz.f45.body.isNone = false := by kernel_rfl
theorem dG.at : Tryz.prog.funcs[47]? = some Tryz.f47 := by kernel_rfl
theorem dG.nm : (Tryz.f47.name == "runtime.NumGoroutine") = false := by kernel_rfl
theorem dG.bd : Tryz.f47.body.isNone = false := by kernel_rfl
theorem dH.at : Tryz.prog.funcs[50]? = some Tryz.f50 := by kernel_rfl
theorem dH.nm : (Tryz.f50.name == "runtime.NumGoroutine") = false := by kernel_rfl
theorem dH.bd : Tryz.f50.body.isNone = false := by kernel_rfl
theorem cQ.at : Tryz.prog.funcs[75]? = some Tryz.f75 := by kernel_rfl
theorem cQ.nm : (Tryz.f75.name == "runtime.NumGoroutine") = false := by kernel_rfl
theorem cQ.bd : Tryz.f75.body.isNone = false := by kernel_rfl
theorem dI.at : Tryz.prog.funcs[76]? = some Tryz.f76 := by kernel_rfl
theorem dI.nm : (Tryz.f76.name == "runtime.NumGoroutine") = false := by kernel_rfl
theorem dI.bd : Tryz.f76.body.isNone = false := by kernel_rfl
theorem cF.at : Tryz.prog.funcs[77]? = some Tryz.f77 := by kernel_rfl
theorem cF.nm : (Tryz.f77.name == "runtime.NumGoroutine") = false := by kernel_rfl
theorem cF.bd : Tryz.f77.body.isNone = false := by kernel_rfl
theorem eJ.at : Tryz.prog.funcs[97]? = some Tryz.f97 := by kernel_rfl
theorem eJ.nm : (Tryz.f97.name == "runtime.NumGoroutine") = false := by kernel_rfl
theorem eJ.bd : Tryz.f97.body.isNone = false := by kernel_rfl
end Lam
namespace Lam
open Go Go.Proofs
theorem kH.at : Tryz.prog.funcs[44]? = some Tryz.f44 := by kernel_rfl
theorem kH.nm : (Tryz.f44.name == "runtime.NumGoroutine") = false := by kernel_rfl
theorem kH.bd : Tryz.f44.body.isNone = false := by kernel_rfl
theorem aIg : Tryz.prog.underlying 20 = some (.interface (Tryz.prog.methodsAt 20)) := by kernel_rfl
theorem aLO (q : Value) (w : World) : ∃ c, Tryz.f44.body = some c ∧ ∀ (Q : Exit → Act → List Frame → World → Prop) (c₀ : Frame) (cs : List Frame), c₀.mode = .returning → (∀ a', a'.defers = [] → Q .normal a' (c₀ :: cs) w) →
      c.wpS Tryz.prog Q { tmps := #[q] ++ Array.replicate 12 undef, defers := [] } (c₀ :: cs) w := by
  delta Tryz.f44
  refine ⟨_, rfl, fun Q c₀ cs hu hQ => wpS_seq (wpS_region ?_)⟩
  simp [wpOpsS, Region.wanted, execOp, resolve, invoke, builtin, recoverD, hu, Exit.thenS, Act.put]
  refine wpS_of_wp (wp_block (wp_seq (wp_region ?_)))
  simp [wpOps, Region.wanted, Oper.wp, Oper.upon, execOp, Act.eval, Act.put, eqGuard, binOp, run_equal_nil_nil w 20 aIg]
  refine .inl (wp_cond_true (by simp [Act.eval]) (wp_region ?_))
  simp [wpOps, Region.wanted, Oper.wp, Oper.upon, execOp, Act.eval, Act.put, Exit.inBlock]
  exact .inl (hQ _ rfl)
def rY : Code → Nat × Array Oper × Nat × Array Oper
  | .seq _ (.block _ (.seq _ (.cond _ _ (.seq _ (.cond _ (.seq (.region i a _) (.region j b _)) _))))) => (i, a, j, b)
  | _ => (0, #[], 0, #[])
def aFu (c : Code) : List Oper := (rY c).2.1.toList
def aFv (c : Code) : List Oper := (rY c).2.2.2.toList
abbrev vU : Ctx := ctx [] [] cF.loops
theorem rF : Ok Tryz.prog vU := bQ (by simp) (by simp) _
theorem aLP (q : Value) : ∃ c, Tryz.f44.body = some c ∧ (aFu c).all (fun o => match o.dst with | none => true | some d => Nat.blt d 13) = true ∧ (aFv c).all (fun o => match o.dst with | none => true | some d => Nat.blt d 13) = true ∧
      (∀ (h : List AObj) (id : Nat) (n : Int) (KP : List (Nat × AV) → AV → List AObj → Prop), h[id]? = some (.box (.int .i64 n)) → opsW vU [] (aFu c) KP (fun t h' => opsW vU [] (aFv c) KP (fun _ h' => h' = (h ++ [AObj.box (.agg [])]).set id (AObj.box (.int .i64 110))) (aFv c) [] t h') (aFu c) [] [(0, .ptr id []), (10, .agg [])] h) ∧
      ∀ (u : Value) (w : World) (Q : Exit → Act → List Frame → World → Prop) (c₀ : Frame) (cs : List Frame), c₀.mode = .panicking [{ v := .iface 128 u, recovered := false }] →
      (∀ a : Act, a.defers = [] → a.tmps.size = 13 → a.tmps.getD 0 undef = q → a.tmps.getD 10 undef = u →
        (Code.seq (.region (rY c).1 (rY c).2.1 false) (.region (rY c).2.2.1 (rY c).2.2.2 false)).wpIn (FW none) 0 Tryz.prog (Exit.inBlock 0 fun e a' w' => Q e a' ({ c₀ with mode := .panicking [{ v := .iface 128 u, recovered := true }] } :: cs) w') a w) →
      c.wpS Tryz.prog Q { tmps := #[q] ++ Array.replicate 12 undef, defers := [] } (c₀ :: cs) w := by
  delta Tryz.f44
  refine ⟨_, rfl, by decide, by decide, ?_, fun u w Q c₀ cs hu hQ => wpS_seq (wpS_region ?_)⟩
  · intro h id n KP hid
    have hlt := (List.getElem?_eq_some_iff.1 hid).1
    have e1 : (h ++ [AObj.box (.agg [])])[h.length]? = some (.box (.agg [])) := by simp
    have e2 : ∀ o, ((h ++ [AObj.box (.agg [])]).set h.length o)[id]? = some (.box (.int .i64 n)) := fun o => by
      rw [List.getElem?_set, if_neg (by omega), List.getElem?_append_left hlt]; exact hid
    show cS (.strct []) h fun t3 h1 => runH (aR (.strct []) h1 t3 (.agg [])) h1 fun _ h => runD (bL (.ptr id [])) h fun t12 h => runH (aR (.int .i64) h t12 (.int .i64 110)) h fun _ h' => h' = _
    simp only [e1, e2, go_sem, reduceEqDiff, Nat.reduceLT, reduceAdd, reduceSub, reduceLeDiff, reduceReplicate, reduceToNat]
    have e3 : (h ++ [AObj.box (.agg [])]).set h.length (AObj.box (.agg [])) = h ++ [AObj.box (.agg [])] := by simp
    rw [e3]
  · simp [wpOpsS, Region.wanted, execOp, resolve, invoke, builtin, recoverD, hu, Exit.thenS, Act.put]
    refine wpS_of_wp (wp_block (wp_seq (wp_region ?_)))
    simp [wpOps, Region.wanted, Oper.wp, Oper.upon, execOp, Act.eval, Act.put, eqGuard, binOp, run_equal_held_nil w 20 128 u aIg]
    refine .inl (wp_cond_false (by simp [Act.eval]) (wp_seq (wp_region ?_)))
    have hta : (Instr.typeAssert (.iface 128 u) 20 128 true).run Tryz.prog w = .ok (.tuple #[u, .bool true]) w := by
      have h0 : Tryz.prog.underlying 128 = some (.struct #[]) := by kernel_rfl
      simp [Instr.typeAssert, underlying, h0]
    have hr3 : List.range 3 = [0, 1, 2] := rfl
    simp [hr3, wpOps, Region.wanted, Oper.wp, Oper.upon, execOp, Act.eval, Act.put, hta, Instr.extract]
    refine .inl (.inl (.inl (wp_cond_true (by simp [Act.eval]) (wpIn_wide.1 (hQ { tmps := _, defers := [] } rfl ?_ ?_ ?_))))) <;> simp
theorem kH.tspec : aIV Tryz.prog 44 128 110 := by
  refine ⟨sQ kH.at kH.nm kH.bd, fun q w => ?_, fun X id q z n H hq hz hbox => ?_⟩
  · obtain ⟨c, hb, h⟩ := aLO q w
    refine wI kH.at hb fun c₀ cs hu => h _ c₀ cs hu fun a' hd => ?_
    refine ⟨hd, .returning, ?_, .tuple #[], ?_, ⟨_, rfl⟩, rfl, rfl⟩
    · rw [← hu]
    · have : Tryz.f44.results = #[] := by kernel_rfl
      rw [uP, this, Array.mapM_eq_mapM_toList]; rfl
  · simp only [VV] at hz
    obtain ⟨u, rfl, hu⟩ := hz
    obtain ⟨c, hb, hd1, hd2, hW, h⟩ := aLP q
    refine wI kH.at hb fun c₀ cs hc => h u X.w _ c₀ cs hc fun a had hs h0 h10 => wpIn_seq (wpIn_region_list ?_)
    have R : SR 13 ⟨X.w.heap.size, []⟩ X [(0, .ptr id []), (10, .agg [])] a := by
      refine ⟨fun i => ?_, Nat.le_of_eq hs.symm, [], had, trivial⟩
      simp only [get]
      split
      · rename_i e; obtain rfl := Nat.eq_of_beq_eq_true e; rw [h0]; exact hq
      · split
        · rename_i e; obtain rfl := Nat.eq_of_beq_eq_true e; rw [h10]; exact hu
        · trivial
    have dst : ∀ {l : List Oper}, (l.all fun o => match o.dst with | none => true | some d => Nat.blt d 13) = true → ∀ o ∈ l, ∀ i, o.dst = some i → i < 13 := by
      intro l hl o ho i hi
      rw [List.all_eq_true] at hl
      have := hl o ho
      rw [hi] at this
      simpa using this
    have hw := hW X.h id n (fun _ _ _ => False) hbox
    have := nS (ro := none) (n := 13) (ds := ⟨X.w.heap.size, []⟩) (rest := []) (c := vU) rF.ok rF.s rF.plain (B := X) (fun l => yR (rF.y l)) 0 (rY c).2.1 (aFu c) [] _ X a (dst hd1) (Kn.nil _) (Ext.refl X) H R hw
      (Q := Exit.then ((Code.region (rY c).2.2.1 (rY c).2.2.2 false).wpIn (FW none) 0 Tryz.prog (Exit.inBlock 0 fun e a' w' => bodyPostS Tryz.prog Tryz.f44 c₀ cs (fun e u' w' => (∃ v, e = .returned v) ∧ u' = .panicking [{ v := .iface 128 u, recovered := true }] ∧
      ∃ Y : Cx, Y.w = w' ∧ HR Y ∧ Ext X Y ∧ Y.h = (X.h ++ [AObj.box (.agg [])]).set id (AObj.box (.int .i64 110))) e a' ({ c₀ with mode := .panicking [{ v := .iface 128 u, recovered := true }] } :: cs) w')) (Exit.inBlock 0 fun e a' w' => bodyPostS Tryz.prog Tryz.f44 c₀ cs (fun e u' w' => (∃ v, e = .returned v) ∧ u' = .panicking [{ v := .iface 128 u, recovered := true }] ∧
      ∃ Y : Cx, Y.w = w' ∧ HR Y ∧ Ext X Y ∧ Y.h = (X.h ++ [AObj.box (.agg [])]).set id (AObj.box (.int .i64 110))) e a' ({ c₀ with mode := .panicking [{ v := .iface 128 u, recovered := true }] } :: cs) w')) ?_ (fun Y t' v q a' HY EY RY hf hv => hf.elim)
    · rw [List.append_nil] at this; exact this
    intro Y t' a' HY EY RY hs hk
    refine wpIn_region_list (F := FW none) (n := 0) (id := (rY c).2.2.1) ?_
    have := nS (ro := none) (n := 13) (ds := ⟨X.w.heap.size, []⟩) (rest := []) (c := vU) rF.ok rF.s rF.plain (B := Y) (fun l => yR (rF.y l)) 0 (rY c).2.2.2 (aFv c) [] _ Y a' (dst hd2) (Kn.nil _) (Ext.refl Y) HY RY hk
      (Q := Exit.inBlock 0 fun e a' w' => bodyPostS Tryz.prog Tryz.f44 c₀ cs (fun e u' w' => (∃ v, e = .returned v) ∧ u' = .panicking [{ v := .iface 128 u, recovered := true }] ∧
      ∃ Y : Cx, Y.w = w' ∧ HR Y ∧ Ext X Y ∧ Y.h = (X.h ++ [AObj.box (.agg [])]).set id (AObj.box (.int .i64 110))) e a' ({ c₀ with mode := .panicking [{ v := .iface 128 u, recovered := true }] } :: cs) w') ?_ (fun Y t' v q a' HY EY RY hf hv => hf.elim)
    · rw [List.append_nil] at this; exact this
    intro Z t'' a'' HZ EZ RZ hs2 hk2
    refine ⟨by rw [hs2.2, hs.2, had], _, rfl, .tuple #[], ?_, ⟨_, rfl⟩, rfl, Z, rfl, HZ, EY.trans EZ, hk2⟩
    have : Tryz.f44.results = #[] := by kernel_rfl
    rw [uP, this, Array.mapM_eq_mapM_toList]; rfl
end Lam
namespace Lam
open Go Go.Proofs
def aY.loops : Nat → bU
 | _ => ⟨[], [], [], [], [], []⟩
def aY.H (c : Ctx) (t0 : AV) (h : List AObj) (K : AOut → List AObj → Prop) : Prop :=
 tC (AV.len aK h t0) h fun t4 h =>
 bE t4
 (K (.ret (.sl true (.ints .i64 []))) h)
 (runD (gC aK 0 [] h.length) h fun t5 h =>
 kC (gS aK h t5 t0 h.length) (iC aK h t5 t0) h fun t7 h =>
 K (.ret t7) h)
def bV.loops : Nat → bU
 | 4 => ⟨[13], [false], [0, 1, 12], [], [], []⟩
 | _ => ⟨[], [], [], [], [], []⟩
def bV.L1 (c : Ctx) (J1 : List AObj → Prop) (K : AOut → List AObj → Prop) (lv : List AV) (h0 : List AObj) (n0 : Nat) (c0 : AV) (c1 : AV) (c12 : AV) : Prop :=
 ∃ I : Nat → List AV → List AObj → Prop, (∃ n, I n lv h0) ∧ ∀ n h, ∀ t13, I n [t13] h →
 runD (binD aB .lss t13 c12) h fun t14 h =>
 bE t14
 (runD (aG aK h c0 t13) h fun t18 h =>
 runD (fitD aB (aD h t18)) h fun t19 h =>
 runD (aG aK h c1 t13) h fun t22 h =>
 runD (fitD aB (aD h t22)) h fun t23 h =>
 runD (binD aB .neq t19 t23) h fun t24 h =>
 bE t24
 (K (.ret (.bool false)) h)
 (runD (binD aB .add t13 (.int .i64 1)) h fun t25 h =>
 (∃ m, m < n ∧ I m (AV.norms n0 h [t25]) (cJ n0 h)) ∧ AV.norms n0 h [c0, c1, c12] = [c0, c1, c12]))
 (J1 h)
def bV.H (c : Ctx) (t0 : AV) (t1 : AV) (h : List AObj) (K : AOut → List AObj → Prop) : Prop :=
 runD (lenD aK h t0) h fun t7 h =>
 runD (lenD aK h t1) h fun t9 h =>
 runD (binD aB .neq t7 t9) h fun t10 h =>
 bE t10
 (K (.ret (.bool false)) h)
 (runD (lenD aK h t0) h fun t12 h =>
 aL (fun (J1 : List AObj → Prop) =>
 dM [false] [(.int .i64 0)] h fun lv h => bV.L1 c J1 K (AV.norms h.length h lv) (cJ h.length h) h.length (AV.norm h.length h t0) (AV.norm h.length h t1) (AV.norm h.length h t12))
 (fun h => K (.ret (.bool true)) h))
def bC.loops : Nat → bU
 | 2 => ⟨[], [], [], [], [2], []⟩
 | _ => ⟨[], [], [], [], [], []⟩
def bC.H (c : Ctx) (t0 : AV) (t1 : AV) (h : List AObj) (K : AOut → List AObj → Prop) : Prop :=
 boxW iE t0 h fun t2 h =>
 aL (fun (J1 : AV → List AObj → Prop) =>
 xG c.iterS t1 (boxH [t2] h)
 (fun id r args h K => lpIs h id .ready r ∧ aAT args fun t7 =>
 cS lT h fun t5 h =>
 runH (aR lT h t5 t7) h fun _ h =>
 lpIs h id .ready r ∧
 runD (fitD iE (aD (List.set h id (.lp .busy none r)) t2)) (List.set h id (.lp .busy none r)) fun t8 h =>
 runD (fitD lT (aD h t5)) h fun t9 h =>
 runD (gC iE 1 [(0, t9)] h.length) h fun t10 h =>
 kC (gS iE h t8 t10 h.length) (iC iE h t8 t10) h fun t11 h =>
 runH (aR iE h t2 t11) h fun _ h =>
 lpIs h id .busy r ∧ K (.ret (.bool true)) (List.set h id (.lp .ready none r)))
 (fun id r ao h => endX id r ao h
 (fun h => J1 t2 h)
 (fun h => K (.ret (.sl true (.pairs []))) h)
 (fun i h => aFl i 0 (J1 t2 h) (False))
 (fun l h => False)
 (fun v h => K (.pan v) h)))
 (fun t2 h => runD (fitD iE (aD h t2)) h fun t12 h =>
 K (.ret t12) h)
def cA.loops : Nat → bU
 | _ => ⟨[], [], [], [], [], []⟩
def cA.H (c : Ctx) (t0 : AV) (t1 : AV) (h : List AObj) (K : AOut → List AObj → Prop) : Prop :=
 aP false c (.fn (.func 104) [] []) [t0, t1] h (fun t7 h =>
 runD (binD aB .geq t7 (.int .i64 0)) h fun t8 h =>
 K (.ret t8) h)
 (fun v h => K (.pan v) h)
def aT.loops : Nat → bU
 | 2 => ⟨[8], [false], [0, 1, 7], [], [], []⟩
 | _ => ⟨[], [], [], [], [], []⟩
def aT.L1 (c : Ctx) (J1 : List AObj → Prop) (K : AOut → List AObj → Prop) (lv : List AV) (h0 : List AObj) (n0 : Nat) (c0 : AV) (c1 : AV) (c7 : AV) : Prop :=
 ∃ I : Nat → List AV → List AObj → Prop, (∃ n, I n lv h0) ∧ ∀ n h, ∀ t8, I n [t8] h →
 runD (binD aB .lss t8 c7) h fun t9 h =>
 bE t9
 (runD (aG aS h c0 t8) h fun t14 h =>
 runD (fitD aJ (aD h t14)) h fun t15 h =>
 aP false c c1 [t15] h (fun t16 h =>
 bE t16
 (K (.ret t8) h)
 (runD (binD aB .add t8 (.int .i64 1)) h fun t18 h =>
 (∃ m, m < n ∧ I m (AV.norms n0 h [t18]) (cJ n0 h)) ∧ AV.norms n0 h [c0, c1, c7] = [c0, c1, c7]))
 (fun v h => K (.pan v) h))
 (J1 h)
def aT.H (c : Ctx) (t0 : AV) (t1 : AV) (h : List AObj) (K : AOut → List AObj → Prop) : Prop :=
 runD (lenD aS h t0) h fun t7 h =>
 aL (fun (J1 : List AObj → Prop) =>
 dM [false] [(.int .i64 0)] h fun lv h => aT.L1 c J1 K (AV.norms h.length h lv) (cJ h.length h) h.length (AV.norm h.length h t0) (AV.norm h.length h t1) (AV.norm h.length h t7))
 (fun h => K (.ret (.int .i64 (-1))) h)
def bP.loops : Nat → bU
 | 4 => ⟨[3], [false], [0], [], [], []⟩
 | 9 => ⟨[3, 5], [false, false], [0, 4], [], [], []⟩
 | _ => ⟨[], [], [], [], [], []⟩
def bP.L2 (c : Ctx) (J3 : AV → AV → List AObj → Prop) (K : AOut → List AObj → Prop) (lv : List AV) (h0 : List AObj) (n0 : Nat) (c0 : AV) (c4 : AV) : Prop :=
 ∃ I : Nat → List AV → List AObj → Prop, (∃ n, I n lv h0) ∧ ∀ n h, ∀ t3, ∀ t5, I n [t3, t5] h →
 runD (lenD aK h c4) h fun t31 h =>
 runD (binD aB .lss t5 t31) h fun t32 h =>
 bE t32
 (runD (aG aK h c4 t5) h fun t37 h =>
 runD (fitD aB (aD h t37)) h fun t38 h =>
 runD (binD aB .sub t5 (.int .i64 1)) h fun t41 h =>
 runD (aG aK h c4 t41) h fun t42 h =>
 runD (fitD aB (aD h t42)) h fun t43 h =>
 runD (binD aB .neq t38 t43) h fun t44 h =>
 aL (fun (J4 : AV → List AObj → Prop) =>
 bE t44
 (runD (aG aK h c4 t5) h fun t49 h =>
 runD (fitD aB (aD h t49)) h fun t50 h =>
 runD (aG aK h c0 t3) h fun t51 h =>
 runH (aR aB h t51 t50) h fun _ h =>
 runD (binD aB .add t3 (.int .i64 1)) h fun t53 h =>
 J4 t53 h)
 (J4 t3 h))
 (fun t3 h => runD (binD aB .add t5 (.int .i64 1)) h fun t34 h =>
 (∃ m, m < n ∧ I m (AV.norms n0 h [t3, t34]) (cJ n0 h)) ∧ AV.norms n0 h [c0, c4] = [c0, c4]))
 (J3 c0 t3 h)
def bP.L1 (c : Ctx) (J1 : AV → List AObj → Prop) (K : AOut → List AObj → Prop) (lv : List AV) (h0 : List AObj) (n0 : Nat) (c0 : AV) : Prop :=
 ∃ I : Nat → List AV → List AObj → Prop, (∃ n, I n lv h0) ∧ ∀ n h, ∀ t3, I n [t3] h →
 runD (lenD aK h c0) h fun t12 h =>
 runD (binD aB .lss t3 t12) h fun t13 h =>
 bE t13
 (aL (fun (J2 : AV → AV → List AObj → Prop) =>
 runD (aG aK h c0 t3) h fun t18 h =>
 runD (fitD aB (aD h t18)) h fun t19 h =>
 runD (binD aB .sub t3 (.int .i64 1)) h fun t22 h =>
 runD (aG aK h c0 t22) h fun t23 h =>
 runD (fitD aB (aD h t23)) h fun t24 h =>
 runD (binD aB .eql t19 t24) h fun t25 h =>
 bE t25
 (runD (eH aK h c0 (some t3) none none) h fun t28 h =>
 aL (fun (J3 : AV → AV → List AObj → Prop) =>
 dM [false, false] [t3, (.int .i64 1)] h fun lv h => bP.L2 c J3 K (AV.norms h.length h lv) (cJ h.length h) h.length (AV.norm h.length h c0) (AV.norm h.length h t28))
 (fun t0 t3 h => runD (eH aK h t0 (some t3) none none) h fun t56 h =>
 runM (nZ aK h t56) h fun _ h =>
 runD (eH aK h t0 none (some t3) none) h fun t59 h =>
 K (.ret t59) h))
 (J2 c0 t3 h))
 (fun t0 t3 h => runD (binD aB .add t3 (.int .i64 1)) h fun t15 h =>
 (∃ m, m < n ∧ I m (AV.norms n0 h [t15]) (cJ n0 h)) ∧ AV.norms n0 h [t0] = [c0]))
 (J1 c0 h)
def bP.H (c : Ctx) (t0 : AV) (h : List AObj) (K : AOut → List AObj → Prop) : Prop :=
 runD (lenD aK h t0) h fun t7 h =>
 runD (binD aB .lss t7 (.int .i64 2)) h fun t8 h =>
 bE t8
 (K (.ret t0) h)
 (aL (fun (J1 : AV → List AObj → Prop) =>
 dM [false] [(.int .i64 1)] h fun lv h => bP.L1 c J1 K (AV.norms h.length h lv) (cJ h.length h) h.length (AV.norm h.length h t0))
 (fun t0 h => K (.ret t0) h))
def bO.loops : Nat → bU
 | 2 => ⟨[8], [false], [0, 1, 7], [], [], []⟩
 | _ => ⟨[], [], [], [], [], []⟩
def bO.L1 (c : Ctx) (J1 : List AObj → Prop) (K : AOut → List AObj → Prop) (lv : List AV) (h0 : List AObj) (n0 : Nat) (c0 : AV) (c1 : AV) (c7 : AV) : Prop :=
 ∃ I : Nat → List AV → List AObj → Prop, (∃ n, I n lv h0) ∧ ∀ n h, ∀ t8, I n [t8] h →
 runD (binD aB .lss t8 c7) h fun t9 h =>
 bE t9
 (runD (aG aK h c0 t8) h fun t14 h =>
 runD (fitD aB (aD h t14)) h fun t15 h =>
 aP false c c1 [t15] h (fun t16 h =>
 bE t16
 (K (.ret t8) h)
 (runD (binD aB .add t8 (.int .i64 1)) h fun t18 h =>
 (∃ m, m < n ∧ I m (AV.norms n0 h [t18]) (cJ n0 h)) ∧ AV.norms n0 h [c0, c1, c7] = [c0, c1, c7]))
 (fun v h => K (.pan v) h))
 (J1 h)
def bO.H (c : Ctx) (t0 : AV) (t1 : AV) (h : List AObj) (K : AOut → List AObj → Prop) : Prop :=
 runD (lenD aK h t0) h fun t7 h =>
 aL (fun (J1 : List AObj → Prop) =>
 dM [false] [(.int .i64 0)] h fun lv h => bO.L1 c J1 K (AV.norms h.length h lv) (cJ h.length h) h.length (AV.norm h.length h t0) (AV.norm h.length h t1) (AV.norm h.length h t7))
 (fun h => K (.ret (.int .i64 (-1))) h)
def cB.loops : Nat → bU
 | 2 => ⟨[8], [false], [0, 1, 7], [], [], []⟩
 | _ => ⟨[], [], [], [], [], []⟩
def cB.L1 (c : Ctx) (J1 : List AObj → Prop) (K : AOut → List AObj → Prop) (lv : List AV) (h0 : List AObj) (n0 : Nat) (c0 : AV) (c1 : AV) (c7 : AV) : Prop :=
 ∃ I : Nat → List AV → List AObj → Prop, (∃ n, I n lv h0) ∧ ∀ n h, ∀ t8, I n [t8] h →
 runD (binD aB .lss t8 c7) h fun t9 h =>
 bE t9
 (runD (aG aK h c0 t8) h fun t14 h =>
 runD (fitD aB (aD h t14)) h fun t15 h =>
 runD (binD aB .eql c1 t15) h fun t16 h =>
 bE t16
 (K (.ret t8) h)
 (runD (binD aB .add t8 (.int .i64 1)) h fun t18 h =>
 (∃ m, m < n ∧ I m (AV.norms n0 h [t18]) (cJ n0 h)) ∧ AV.norms n0 h [c0, c1, c7] = [c0, c1, c7]))
 (J1 h)
def cB.H (c : Ctx) (t0 : AV) (t1 : AV) (h : List AObj) (K : AOut → List AObj → Prop) : Prop :=
 runD (lenD aK h t0) h fun t7 h =>
 aL (fun (J1 : List AObj → Prop) =>
 dM [false] [(.int .i64 0)] h fun lv h => cB.L1 c J1 K (AV.norms h.length h lv) (cJ h.length h) h.length (AV.norm h.length h t0) (AV.norm h.length h t1) (AV.norm h.length h t7))
 (fun h => K (.ret (.int .i64 (-1))) h)
def bW.loops : Nat → bU
 | _ => ⟨[], [], [], [], [], []⟩
def bW.H (c : Ctx) (t0 : AV) (t1 : AV) (h : List AObj) (K : AOut → List AObj → Prop) : Prop :=
 aP false c (.fn (.func 102) [] []) [t0, t1] h (fun t7 h =>
 runD (binD aB .geq t7 (.int .i64 0)) h fun t8 h =>
 K (.ret t8) h)
 (fun v h => K (.pan v) h)
def aQ.loops : Nat → bU
 | _ => ⟨[], [], [], [], [], []⟩
def aQ.H (c : Ctx) (t0 : AV) (t1 : AV) (h : List AObj) (K : AOut → List AObj → Prop) : Prop :=
 aP false c (.fn (.func 147) [] []) [t0, t1] h (fun t7 h =>
 runD (binD aB .geq t7 (.int .i64 0)) h fun t8 h =>
 K (.ret t8) h)
 (fun v h => K (.pan v) h)
def aN.loops : Nat → bU
 | 2 => ⟨[8], [false], [0, 1, 7], [], [], []⟩
 | _ => ⟨[], [], [], [], [], []⟩
def aN.L1 (c : Ctx) (J1 : List AObj → Prop) (K : AOut → List AObj → Prop) (lv : List AV) (h0 : List AObj) (n0 : Nat) (c0 : AV) (c1 : AV) (c7 : AV) : Prop :=
 ∃ I : Nat → List AV → List AObj → Prop, (∃ n, I n lv h0) ∧ ∀ n h, ∀ t8, I n [t8] h →
 runD (binD aB .lss t8 c7) h fun t9 h =>
 bE t9
 (runD (aG kA h c0 t8) h fun t14 h =>
 runD (fitD fS (aD h t14)) h fun t15 h =>
 aP false c c1 [t15] h (fun t16 h =>
 bE t16
 (K (.ret t8) h)
 (runD (binD aB .add t8 (.int .i64 1)) h fun t18 h =>
 (∃ m, m < n ∧ I m (AV.norms n0 h [t18]) (cJ n0 h)) ∧ AV.norms n0 h [c0, c1, c7] = [c0, c1, c7]))
 (fun v h => K (.pan v) h))
 (J1 h)
def aN.H (c : Ctx) (t0 : AV) (t1 : AV) (h : List AObj) (K : AOut → List AObj → Prop) : Prop :=
 runD (lenD kA h t0) h fun t7 h =>
 aL (fun (J1 : List AObj → Prop) =>
 dM [false] [(.int .i64 0)] h fun lv h => aN.L1 c J1 K (AV.norms h.length h lv) (cJ h.length h) h.length (AV.norm h.length h t0) (AV.norm h.length h t1) (AV.norm h.length h t7))
 (fun h => K (.ret (.int .i64 (-1))) h)
def bJ.loops : Nat → bU
 | _ => ⟨[], [], [], [], [], []⟩
def bJ.H (c : Ctx) (t0 : AV) (h : List AObj) (K : AOut → List AObj → Prop) : Prop :=
 runD (lenD cG h t0) h fun t5 h =>
 runD (lenD cG h t0) h fun t7 h =>
 runD (eH cG h t0 none (some t5) (some t7)) h fun t8 h =>
 K (.ret t8) h
def bI.loops : Nat → bU
 | _ => ⟨[], [], [], [], [], []⟩
def bI.H (c : Ctx) (t0 : AV) (h : List AObj) (K : AOut → List AObj → Prop) : Prop :=
 tC (AV.len cG h t0) h fun t4 h =>
 bE t4
 (K (.ret (.sl true (.pends []))) h)
 (runD (gC cG 0 [] h.length) h fun t5 h =>
 kC (gS cG h t5 t0 h.length) (iC cG h t5 t0) h fun t7 h =>
 K (.ret t7) h)
theorem aY.eq (F : List (FuncId × aE)) (S : List (FuncId × Con)) (t0 : AV) (h : List AObj) (K : AOut → List AObj → Prop) : funW (ctx F S aY.loops) Tryz.f34 [t0] h K = aY.H (ctx F S aY.loops) t0 h K := by kernel_rfl
theorem bV.eq (F : List (FuncId × aE)) (S : List (FuncId × Con)) (t0 t1 : AV) (h : List AObj) (K : AOut → List AObj → Prop) : funW (ctx F S bV.loops) Tryz.f35 [t0, t1] h K = bV.H (ctx F S bV.loops) t0 t1 h K := by kernel_rfl
theorem bC.eq (F : List (FuncId × aE)) (S : List (FuncId × Con)) (Is : List (FuncId × (Con → Con))) (t0 t1 : AV) (h : List AObj) (K : AOut → List AObj → Prop) : funW (ctxI F S Is bC.loops) Tryz.f51 [t0, t1] h K = bC.H (ctxI F S Is bC.loops) t0 t1 h K := by kernel_rfl
theorem cA.eq (F : List (FuncId × aE)) (S : List (FuncId × Con)) (t0 t1 : AV) (h : List AObj) (K : AOut → List AObj → Prop) : funW (ctx F S cA.loops) Tryz.f83 [t0, t1] h K = cA.H (ctx F S cA.loops) t0 t1 h K := by kernel_rfl
theorem aT.eq (F : List (FuncId × aE)) (S : List (FuncId × Con)) (t0 t1 : AV) (h : List AObj) (K : AOut → List AObj → Prop) : funW (ctx F S aT.loops) Tryz.f90 [t0, t1] h K = aT.H (ctx F S aT.loops) t0 t1 h K := by kernel_rfl
theorem bP.eq (F : List (FuncId × aE)) (S : List (FuncId × Con)) (t0 : AV) (h : List AObj) (K : AOut → List AObj → Prop) : funW (ctx F S bP.loops) Tryz.f98 [t0] h K = bP.H (ctx F S bP.loops) t0 h K := by kernel_rfl
theorem bO.eq (F : List (FuncId × aE)) (S : List (FuncId × Con)) (t0 t1 : AV) (h : List AObj) (K : AOut → List AObj → Prop) : funW (ctx F S bO.loops) Tryz.f102 [t0, t1] h K = bO.H (ctx F S bO.loops) t0 t1 h K := by kernel_rfl
theorem cB.eq (F : List (FuncId × aE)) (S : List (FuncId × Con)) (t0 t1 : AV) (h : List AObj) (K : AOut → List AObj → Prop) : funW (ctx F S cB.loops) Tryz.f104 [t0, t1] h K = cB.H (ctx F S cB.loops) t0 t1 h K := by kernel_rfl
theorem bW.eq (F : List (FuncId × aE)) (S : List (FuncId × Con)) (t0 t1 : AV) (h : List AObj) (K : AOut → List AObj → Prop) : funW (ctx F S bW.loops) Tryz.f106 [t0, t1] h K = bW.H (ctx F S bW.loops) t0 t1 h K := by kernel_rfl
theorem aQ.eq (F : List (FuncId × aE)) (S : List (FuncId × Con)) (t0 t1 : AV) (h : List AObj) (K : AOut → List AObj → Prop) : funW (ctx F S aQ.loops) Tryz.f136 [t0, t1] h K = aQ.H (ctx F S aQ.loops) t0 t1 h K := by kernel_rfl
theorem aN.eq (F : List (FuncId × aE)) (S : List (FuncId × Con)) (t0 t1 : AV) (h : List AObj) (K : AOut → List AObj → Prop) : funW (ctx F S aN.loops) Tryz.f147 [t0, t1] h K = aN.H (ctx F S aN.loops) t0 t1 h K := by kernel_rfl
theorem bJ.eq (F : List (FuncId × aE)) (S : List (FuncId × Con)) (t0 : AV) (h : List AObj) (K : AOut → List AObj → Prop) : funW (ctx F S bJ.loops) Tryz.f153 [t0] h K = bJ.H (ctx F S bJ.loops) t0 h K := by kernel_rfl
theorem bI.eq (F : List (FuncId × aE)) (S : List (FuncId × Con)) (t0 : AV) (h : List AObj) (K : AOut → List AObj → Prop) : funW (ctx F S bI.loops) Tryz.f155 [t0] h K = bI.H (ctx F S bI.loops) t0 h K := by kernel_rfl
theorem aY.at : Tryz.prog.funcs[34]? = some Tryz.f34 := by kernel_rfl
theorem aY.nm : (Tryz.f34.name == "runtime.NumGoroutine") = false := by kernel_rfl
theorem aY.bd : Tryz.f34.body.isNone = false := by kernel_rfl
theorem bV.at : Tryz.prog.funcs[35]? = some Tryz.f35 := by kernel_rfl
theorem bV.nm : (Tryz.f35.name == "runtime.NumGoroutine") = false := by kernel_rfl
theorem bV.bd : Tryz.f35.body.isNone = false := by kernel_rfl
theorem bC.at : Tryz.prog.funcs[51]? = some Tryz.f51 := by kernel_rfl
theorem bC.nm : (Tryz.f51.name == "runtime.NumGoroutine") = false := by kernel_rfl
theorem bC.bd : Tryz.f51.body.isNone = false := by kernel_rfl
theorem cA.at : Tryz.prog.funcs[83]? = some Tryz.f83 := by kernel_rfl
theorem cA.nm : (Tryz.f83.name == "runtime.NumGoroutine") = false := by kernel_rfl
theorem cA.bd : Tryz.f83.body.isNone = false := by kernel_rfl
theorem aT.at : Tryz.prog.funcs[90]? = some Tryz.f90 := by kernel_rfl
theorem aT.nm : (Tryz.f90.name == "runtime.NumGoroutine") = false := by kernel_rfl
theorem aT.bd : Tryz.f90.body.isNone = false := by kernel_rfl
theorem bP.at : Tryz.prog.funcs[98]? = some Tryz.f98 := by kernel_rfl
theorem bP.nm : (Tryz.f98.name == "runtime.NumGoroutine") = false := by kernel_rfl
theorem bP.bd : Tryz.f98.body.isNone = false := by kernel_rfl
theorem bO.at : Tryz.prog.funcs[102]? = some Tryz.f102 := by kernel_rfl
theorem bO.nm : (Tryz.f102.name == "runtime.NumGoroutine") = false := by kernel_rfl
theorem bO.bd : Tryz.f102.body.isNone = false := by kernel_rfl
theorem cB.at : Tryz.prog.funcs[104]? = some Tryz.f104 := by kernel_rfl
theorem cB.nm : (Tryz.f104.name == "runtime.NumGoroutine") = false := by kernel_rfl
theorem cB.bd : Tryz.f104.body.isNone = false := by kernel_rfl
theorem bW.at : Tryz.prog.funcs[106]? = some Tryz.f106 := by kernel_rfl
theorem bW.nm : (Tryz.f106.name == "runtime.NumGoroutine") = false := by kernel_rfl
theorem bW.bd : Tryz.f106.body.isNone = false := by kernel_rfl
theorem aQ.at : Tryz.prog.funcs[136]? = some Tryz.f136 := by kernel_rfl
theorem aQ.nm : (Tryz.f136.name == "runtime.NumGoroutine") = false := by kernel_rfl
theorem aQ.bd : Tryz.f136.body.isNone = false := by kernel_rfl
theorem aN.at : Tryz.prog.funcs[147]? = some Tryz.f147 := by kernel_rfl
theorem aN.nm : (Tryz.f147.name == "runtime.NumGoroutine") = false := by kernel_rfl
theorem aN.bd : Tryz.f147.body.isNone = false := by kernel_rfl
theorem bJ.at : Tryz.prog.funcs[153]? = some Tryz.f153 := by kernel_rfl
theorem bJ.nm : (Tryz.f153.name == "runtime.NumGoroutine") = false := by kernel_rfl
theorem bJ.bd : Tryz.f153.body.isNone = false := by kernel_rfl
theorem bI.at : Tryz.prog.funcs[155]? = some Tryz.f155 := by kernel_rfl
theorem bI.nm : (Tryz.f155.name == "runtime.NumGoroutine") = false := by kernel_rfl
theorem bI.bd : Tryz.f155.body.isNone = false := by kernel_rfl
end Lam
namespace Lam
open Go Go.Proofs
def gJ.loops : Nat → bU
 | 1 => ⟨[], [], [], [(4, none), (2, some [8, 10]), (2, none), (2, some [12, 14])], [], []⟩
 | _ => ⟨[], [], [], [], [], []⟩
def gJ.H (c : Ctx) (t0 : AV) (t1 : AV) (h : List AObj) (K : AOut → List AObj → Prop) : Prop :=
 aP false c (.fn (.func 94) [] []) [t0] h (fun t6 h =>
 runD (unD .not t6) h fun t7 h =>
 aL (fun (J1 : AV → AV → List AObj → Prop) =>
 bF t7 false
 (runD (binD aB .lss t1 (.int .i64 0)) h fun t10 h =>
 J1 (.bool false) t10 h)
 (J1 (.bool true) .und h))
 (fun t8 t10 h => runD (bT t8 (.bool true) t10) h fun t11 h =>
 aL (fun (J2 : AV → AV → List AObj → Prop) =>
 bF t11 false
 (runD (binD aB .geq t1 (.int .i64 13)) h fun t14 h =>
 J2 (.bool false) t14 h)
 (J2 (.bool true) .und h))
 (fun t12 t14 h => runD (bT t12 (.bool true) t14) h fun t15 h =>
 bE t15
 (K (.ret (.int .i64 (-1))) h)
 (runD (binD aB .add t0 (.int .i64 3)) h fun t17 h =>
 runD (binD aB .add t17 t1) h fun t19 h =>
 K (.ret t19) h))))
 (fun v h => K (.pan v) h)
def eI.loops : Nat → bU
 | _ => ⟨[], [], [], [], [], []⟩
def eI.H (c : Ctx) (t0 : AV) (h : List AObj) (K : AOut → List AObj → Prop) : Prop :=
 aP false c (.fn (.func 34) [] []) [t0] h (fun t4 h =>
 aP false c (.fn (.func 98) [] []) [t4] h (fun t5 h =>
 K (.ret t5) h)
 (fun v h => K (.pan v) h))
 (fun v h => K (.pan v) h)
def gK.loops : Nat → bU
 | 1 => ⟨[], [], [], [(4, none), (5, some [10, 15])], [], []⟩
 | _ => ⟨[], [], [], [], [], []⟩
def gK.H (c : Ctx) (t0 : AV) (t1 : AV) (h : List AObj) (K : AOut → List AObj → Prop) : Prop :=
 aP false c (.fn (.func 94) [] []) [t1] h (fun t8 h =>
 runD (unD .not t8) h fun t9 h =>
 aL (fun (J1 : AV → AV → List AObj → Prop) =>
 bF t9 false
 (runD (binD aB .add t1 (.int .i64 16)) h fun t12 h =>
 runD (lenD aK h t0) h fun t14 h =>
 runD (binD aB .gtr t12 t14) h fun t15 h =>
 J1 (.bool false) t15 h)
 (J1 (.bool true) .und h))
 (fun t10 t15 h => runD (bT t10 (.bool true) t15) h fun t16 h =>
 bE t16
 (K (.ret (.sl true (.ints .i64 []))) h)
 (runD (binD aB .add t1 (.int .i64 3)) h fun t19 h =>
 runD (binD aB .add t1 (.int .i64 16)) h fun t21 h =>
 runD (binD aB .add t1 (.int .i64 16)) h fun t23 h =>
 runD (eH aK h t0 (some t19) (some t21) (some t23)) h fun t24 h =>
 aP false c (.fn (.func 102) [] []) [t24, (.fn (.func 103) [] [])] h (fun t26 h =>
 runD (binD aB .lss t26 (.int .i64 0)) h fun t28 h =>
 aL (fun (J2 : AV → List AObj → Prop) =>
 bE t28
 (runD (lenD aK h t24) h fun t30 h =>
 J2 t30 h)
 (J2 t26 h))
 (fun t6 h => runD (eH aK h t24 none (some t6) none) h fun t33 h =>
 aP false c (.fn (.func 34) [] []) [t33] h (fun t34 h =>
 K (.ret t34) h)
 (fun v h => K (.pan v) h)))
 (fun v h => K (.pan v) h))))
 (fun v h => K (.pan v) h)
def gG.loops : Nat → bU
 | 1 => ⟨[], [], [], [(3, none), (3, some [5, 8]), (2, none), (3, some [10, 13])], [], []⟩
 | _ => ⟨[], [], [], [], [], []⟩
def gG.H (c : Ctx) (t0 : AV) (h : List AObj) (K : AOut → List AObj → Prop) : Prop :=
 runD (binD aB .geq t0 (.int .i64 0)) h fun t4 h =>
 aL (fun (J1 : AV → AV → List AObj → Prop) =>
 bF t4 true
 (runD (binD aB .add t0 (.int .i64 16)) h fun t7 h =>
 runD (binD aB .leq t7 (.int .i64 4096)) h fun t8 h =>
 J1 (.bool true) t8 h)
 (J1 (.bool false) .und h))
 (fun t5 t8 h => runD (bT t5 t8 (.bool false)) h fun t9 h =>
 aL (fun (J2 : AV → AV → List AObj → Prop) =>
 bF t9 true
 (runD (binD aB .rem t0 (.int .i64 16)) h fun t12 h =>
 runD (binD aB .eql t12 (.int .i64 0)) h fun t13 h =>
 J2 (.bool true) t13 h)
 (J2 (.bool false) .und h))
 (fun t10 t13 h => runD (bT t10 t13 (.bool false)) h fun t14 h =>
 K (.ret t14) h))
def fF.loops : Nat → bU
 | _ => ⟨[], [], [], [], [], []⟩
def fF.H (c : Ctx) (t0 : AV) (h : List AObj) (K : AOut → List AObj → Prop) : Prop :=
 runD (binD aB .lss t0 (.int .i64 1)) h fun t4 h =>
 K (.ret t4) h
theorem gJ.eq (F : List (FuncId × aE)) (S : List (FuncId × Con)) (t0 t1 : AV) (h : List AObj) (K : AOut → List AObj → Prop) : funW (ctx F S gJ.loops) Tryz.f68 [t0, t1] h K = gJ.H (ctx F S gJ.loops) t0 t1 h K := by kernel_rfl
theorem eI.eq (F : List (FuncId × aE)) (S : List (FuncId × Con)) (t0 : AV) (h : List AObj) (K : AOut → List AObj → Prop) : funW (ctx F S eI.loops) Tryz.f78 [t0] h K = eI.H (ctx F S eI.loops) t0 h K := by kernel_rfl
theorem gK.eq (F : List (FuncId × aE)) (S : List (FuncId × Con)) (t0 t1 : AV) (h : List AObj) (K : AOut → List AObj → Prop) : funW (ctx F S gK.loops) Tryz.f80 [t0, t1] h K = gK.H (ctx F S gK.loops) t0 t1 h K := by kernel_rfl
theorem gG.eq (F : List (FuncId × aE)) (S : List (FuncId × Con)) (t0 : AV) (h : List AObj) (K : AOut → List AObj → Prop) : funW (ctx F S gG.loops) Tryz.f94 [t0] h K = gG.H (ctx F S gG.loops) t0 h K := by kernel_rfl
theorem fF.eq (F : List (FuncId × aE)) (S : List (FuncId × Con)) (t0 : AV) (h : List AObj) (K : AOut → List AObj → Prop) : funW (ctx F S fF.loops) Tryz.f103 [t0] h K = fF.H (ctx F S fF.loops) t0 h K := by kernel_rfl
theorem gJ.at : Tryz.prog.funcs[68]? = some Tryz.f68 := by kernel_rfl
theorem gJ.nm : (Tryz.f68.name == "runtime.NumGoroutine") = false := by kernel_rfl
theorem gJ.bd : Tryz.f68.body.isNone = false := by kernel_rfl
theorem eI.at : Tryz.prog.funcs[78]? = some Tryz.f78 := by kernel_rfl
theorem eI.nm : (Tryz.f78.name == "runtime.NumGoroutine") = false := by kernel_rfl
theorem eI.bd : Tryz.f78.body.isNone = false := by kernel_rfl
theorem gK.at : Tryz.prog.funcs[80]? = some Tryz.f80 := by kernel_rfl
theorem gK.nm : (Tryz.f80.name == "runtime.NumGoroutine") = false := by kernel_rfl
theorem gK.bd : Tryz.f80.body.isNone = false := by kernel_rfl
theorem gG.at : Tryz.prog.funcs[94]? = some Tryz.f94 := by kernel_rfl
theorem gG.nm : (Tryz.f94.name == "runtime.NumGoroutine") = false := by kernel_rfl
theorem gG.bd : Tryz.f94.body.isNone = false := by kernel_rfl
theorem fF.at : Tryz.prog.funcs[103]? = some Tryz.f103 := by kernel_rfl
theorem fF.nm : (Tryz.f103.name == "runtime.NumGoroutine") = false := by kernel_rfl
theorem fF.bd : Tryz.f103.body.isNone = false := by kernel_rfl
end Lam
namespace Lam
open Go Go.Proofs
def cK.loops : Nat → bU
 | 1 => ⟨[], [], [], [(3, none), (5, some [12, 17])], [], []⟩
 | 6 => ⟨[], [], [], [(3, none), (4, some [52, 56])], [], []⟩
 | _ => ⟨[], [], [], [], [], []⟩
def cK.H (c : Ctx) (t0 : AV) (t1 : AV) (h : List AObj) (K : AOut → List AObj → Prop) : Prop :=
 cS bA h fun t4 h =>
 runD (binD aB .lss t1 (.int .i64 0)) h fun t11 h =>
 aL (fun (J1 : AV → AV → List AObj → Prop) =>
 bF t11 false
 (runD (lenD aK h t0) h fun t15 h =>
 runD (binD aB .quo t15 (.int .i64 16)) h fun t16 h =>
 runD (binD aB .geq t1 t16) h fun t17 h =>
 J1 (.bool false) t17 h)
 (J1 (.bool true) .und h))
 (fun t12 t17 h => runD (bT t12 (.bool true) t17) h fun t18 h =>
 bE t18
 (runD (gY bA []) h fun t19 h =>
 runH (aR bA h t4 t19) h fun _ h =>
 dA (fitD bA (aD h t4)) fun r0 => K (.ret (.tup [r0, (.int .i64 1)])) h)
 (runD (binD aB .mul (.int .i64 16) t1) h fun t22 h =>
 runD (binD aB .add t1 (.int .i64 1)) h fun t24 h =>
 runD (binD aB .mul (.int .i64 16) t24) h fun t25 h =>
 runD (eH aK h t0 (some t22) (some t25) none) h fun t26 h =>
 runD (aG aK h t26 (.int .i64 0)) h fun t28 h =>
 runD (fitD aB (aD h t28)) h fun t29 h =>
 runD (binD aB .and t29 (.int .i64 15)) h fun t30 h =>
 runD (aG aK h t26 (.int .i64 0)) h fun t32 h =>
 runD (fitD aB (aD h t32)) h fun t33 h =>
 runD (binD aB .andNot t33 (.int .i64 1152921504606846976)) h fun t34 h =>
 runD (binD aB .shr t34 (.int .u64 4)) h fun t35 h =>
 runD (aG aK h t26 (.int .i64 1)) h fun t37 h =>
 runD (fitD aB (aD h t37)) h fun t38 h =>
 runD (aG aK h t26 (.int .i64 2)) h fun t40 h =>
 runD (fitD aB (aD h t40)) h fun t41 h =>
 aP false c.noS (.fn (.func 80) [] []) [t26, (.int .i64 0)] h (fun t43 h =>
 runD (gY bA [(0, t30), (1, t35), (2, t38), (3, t41), (4, t43)]) h fun t44 h =>
 cS bA h fun t7 h =>
 runH (aR bA h t7 t44) h fun _ h =>
 runD (fitD bA (aD h t7)) h fun t46 h =>
 aP false c (.fn (.func 57) [] []) [t46] h (fun t47 h =>
 runD (aW t47 0) h fun t48 h =>
 runD (aW t47 1) h fun t49 h =>
 runD (binD cN .neq t49 (.int .i64 0)) h fun t51 h =>
 aL (fun (J2 : AV → AV → List AObj → Prop) =>
 bF t51 false
 (aP false c (.fn (.func 35) [] []) [t48, t26] h (fun t55 h =>
 runD (unD .not t55) h fun t56 h =>
 J2 (.bool false) t56 h)
 (fun v h => K (.pan v) h))
 (J2 (.bool true) .und h))
 (fun t52 t56 h => runD (bT t52 (.bool true) t56) h fun t57 h =>
 bE t57
 (runD (gY bA []) h fun t58 h =>
 runH (aR bA h t4 t58) h fun _ h =>
 dA (fitD bA (aD h t4)) fun r0 => K (.ret (.tup [r0, (.int .i64 90)])) h)
 (runD (fitD bA (aD h t7)) h fun t59 h =>
 runH (aR bA h t4 t59) h fun _ h =>
 dA (fitD bA (aD h t4)) fun r0 => K (.ret (.tup [r0, (.int .i64 0)])) h)))
 (fun v h => K (.pan v) h))
 (fun _ _ => False)))
def fJ.loops : Nat → bU
 | _ => ⟨[], [], [], [], [], []⟩
def fJ.H (c : Ctx) (t0 : AV) (h : List AObj) (K : AOut → List AObj → Prop) : Prop :=
 boxW bA t0 h fun t1 h =>
 runD (fitD bA (aD h t1)) h fun t5 h =>
 aP false c (.fn (.func 86) [] []) [t5] h (fun t6 h =>
 runD (unD .not t6) h fun t7 h =>
 bE t7
 (K (.ret (.tup [(.sl true (.ints .i64 [])), (.int .i64 90)])) h)
 (runD (kB aK (.int .i64 16) (.int .i64 16) h.length) h fun t8 h =>
 runD (fitD bA (aD h t1)) h fun t12 h =>
 aP false c.noS (.fn (.func 87) [] []) [t12] h (fun t13 h =>
 runD (aC bA t1 2) h fun t14 h =>
 runD (fitD aB (aD h t14)) h fun t15 h =>
 runD (aC bA t1 3) h fun t16 h =>
 runD (fitD aB (aD h t16)) h fun t17 h =>
 runD (aG aK h t8 (.int .i64 0)) h fun t18 h =>
 runH (aR aB h t18 t13) h fun _ h =>
 runD (aG aK h t8 (.int .i64 1)) h fun t19 h =>
 runH (aR aB h t19 t15) h fun _ h =>
 runD (aG aK h t8 (.int .i64 2)) h fun t20 h =>
 runH (aR aB h t20 t17) h fun _ h =>
 sepB t18 [t14] = true ∧ sepB t18 [t16] = true ∧ sepB t19 [t16] = true ∧ runD (eH aK h t8 (some (.int .i64 3)) none none) h fun t22 h =>
 runD (aC bA t1 4) h fun t23 h =>
 runD (fitD aK (aD h t23)) h fun t24 h =>
 runM (mA aK h t22 t24) h fun t25 h =>
 K (.ret (.tup [t8, (.int .i64 0)])) h)
 (fun _ _ => False)))
 (fun v h => K (.pan v) h)
def gM.loops : Nat → bU
 | 10 => ⟨[], [], [], [(2, none), (4, some [32, 36])], [], []⟩
 | _ => ⟨[], [], [], [], [], []⟩
def gM.H (c : Ctx) (t0 : AV) (h : List AObj) (K : AOut → List AObj → Prop) : Prop :=
 boxW bA t0 h fun t1 h =>
 aL (fun (J1 : AV → List AObj → Prop) =>
 aL (fun (J2 : List AObj → Prop) =>
 aL (fun (J3 : List AObj → Prop) =>
 runD (aC bA t1 0) h fun t5 h =>
 runD (fitD aB (aD h t5)) h fun t6 h =>
 runD (binD aB .lss t6 (.int .i64 0)) h fun t7 h =>
 aL (fun (J4 : AV → List AObj → Prop) =>
 bE t7
 (J4 t7 h)
 (runD (aC bA t1 0) h fun t8 h =>
 runD (fitD aB (aD h t8)) h fun t9 h =>
 runD (binD aB .gtr t9 (.int .i64 9)) h fun t10 h =>
 J4 t10 h))
 (fun t4 h => bE t4
 (J3 h)
 (runD (aC bA t1 1) h fun t12 h =>
 runD (fitD aB (aD h t12)) h fun t13 h =>
 runD (binD aB .lss t13 (.int .i64 0)) h fun t14 h =>
 aL (fun (J5 : AV → List AObj → Prop) =>
 bE t14
 (J5 t14 h)
 (runD (aC bA t1 1) h fun t15 h =>
 runD (fitD aB (aD h t15)) h fun t16 h =>
 runD (binD aB .gtr t16 (.int .i64 1099511627776)) h fun t17 h =>
 J5 t17 h))
 (fun t11 h => bE t11
 (J3 h)
 (runD (aC bA t1 2) h fun t19 h =>
 runD (fitD aB (aD h t19)) h fun t20 h =>
 aP false c (.fn (.func 105) [] []) [t20] h (fun t21 h =>
 runD (unD .not t21) h fun t22 h =>
 aL (fun (J6 : AV → List AObj → Prop) =>
 bE t22
 (J6 t22 h)
 (runD (aC bA t1 3) h fun t23 h =>
 runD (fitD aB (aD h t23)) h fun t24 h =>
 aP false c (.fn (.func 105) [] []) [t24] h (fun t25 h =>
 runD (unD .not t25) h fun t26 h =>
 aL (fun (J7 : AV → List AObj → Prop) =>
 bE t26
 (J7 t26 h)
 (runD (aC bA t1 4) h fun t27 h =>
 runD (fitD aK (aD h t27)) h fun t28 h =>
 runD (lenD aK h t28) h fun t29 h =>
 runD (binD aB .gtr t29 (.int .i64 13)) h fun t30 h =>
 J7 t30 h))
 (fun t18 h => J6 t18 h))
 (fun v h => K (.pan v) h)))
 (fun t18 h => bE t18
 (J2 h)
 (J1 (.bool true) h)))
 (fun v h => K (.pan v) h))))))
 (fun h => J2 h))
 (fun h => J1 (.bool false) h))
 (fun t3 h => aL (fun (J8 : AV → AV → List AObj → Prop) =>
 bF t3 true
 (runD (aC bA t1 4) h fun t33 h =>
 runD (fitD aK (aD h t33)) h fun t34 h =>
 aP false c (.fn (.func 106) [] []) [t34, (.fn (.func 107) [] [])] h (fun t35 h =>
 runD (unD .not t35) h fun t36 h =>
 J8 (.bool true) t36 h)
 (fun v h => K (.pan v) h))
 (J8 (.bool false) .und h))
 (fun t32 t36 h => runD (bT t32 t36 (.bool false)) h fun t37 h =>
 K (.ret t37) h))
def gN.loops : Nat → bU
 | _ => ⟨[], [], [], [], [], []⟩
def gN.H (c : Ctx) (t0 : AV) (h : List AObj) (K : AOut → List AObj → Prop) : Prop :=
 boxW bA t0 h fun t1 h =>
 runD (aC bA t1 1) h fun t3 h =>
 runD (fitD aB (aD h t3)) h fun t4 h =>
 runD (binD aB .shl t4 (.int .u64 4)) h fun t5 h =>
 runD (binD aB .or (.int .i64 1152921504606846976) t5) h fun t6 h =>
 runD (aC bA t1 0) h fun t7 h =>
 runD (fitD aB (aD h t7)) h fun t8 h =>
 runD (binD aB .or t6 t8) h fun t9 h =>
 K (.ret t9) h
def fA.loops : Nat → bU
 | 1 => ⟨[], [], [], [(3, none), (2, some [5, 7])], [], []⟩
 | _ => ⟨[], [], [], [], [], []⟩
def fA.H (c : Ctx) (t0 : AV) (h : List AObj) (K : AOut → List AObj → Prop) : Prop :=
 runD (binD aB .geq t0 (.int .i64 0)) h fun t4 h =>
 aL (fun (J1 : AV → AV → List AObj → Prop) =>
 bF t4 true
 (runD (binD aB .lss t0 (.int .i64 256)) h fun t7 h =>
 J1 (.bool true) t7 h)
 (J1 (.bool false) .und h))
 (fun t5 t7 h => runD (bT t5 t7 (.bool false)) h fun t8 h =>
 K (.ret t8) h)
def fG.loops : Nat → bU
 | 1 => ⟨[], [], [], [(3, none), (3, some [5, 8])], [], []⟩
 | _ => ⟨[], [], [], [], [], []⟩
def fG.H (c : Ctx) (t0 : AV) (h : List AObj) (K : AOut → List AObj → Prop) : Prop :=
 runD (binD aB .eql t0 (.int .i64 0)) h fun t4 h =>
 aL (fun (J1 : AV → AV → List AObj → Prop) =>
 bF t4 false
 (aP false c (.fn (.func 105) [] []) [t0] h (fun t7 h =>
 runD (unD .not t7) h fun t8 h =>
 J1 (.bool false) t8 h)
 (fun v h => K (.pan v) h))
 (J1 (.bool true) .und h))
 (fun t5 t8 h => runD (bT t5 (.bool true) t8) h fun t9 h =>
 K (.ret t9) h)
theorem cK.eq (F : List (FuncId × aE)) (S : List (FuncId × Con)) (t0 t1 : AV) (h : List AObj) (K : AOut → List AObj → Prop) : funW (ctx F S cK.loops) Tryz.f46 [t0, t1] h K = cK.H (ctx F S cK.loops) t0 t1 h K := by kernel_rfl
theorem fJ.eq (F : List (FuncId × aE)) (S : List (FuncId × Con)) (t0 : AV) (h : List AObj) (K : AOut → List AObj → Prop) : funW (ctx F S fJ.loops) Tryz.f57 [t0] h K = fJ.H (ctx F S fJ.loops) t0 h K := by kernel_rfl
theorem gM.eq (F : List (FuncId × aE)) (S : List (FuncId × Con)) (t0 : AV) (h : List AObj) (K : AOut → List AObj → Prop) : funW (ctx F S gM.loops) Tryz.f86 [t0] h K = gM.H (ctx F S gM.loops) t0 h K := by kernel_rfl
theorem gN.eq (F : List (FuncId × aE)) (S : List (FuncId × Con)) (t0 : AV) (h : List AObj) (K : AOut → List AObj → Prop) : funW (ctx F S gN.loops) Tryz.f87 [t0] h K = gN.H (ctx F S gN.loops) t0 h K := by kernel_rfl
theorem fA.eq (F : List (FuncId × aE)) (S : List (FuncId × Con)) (t0 : AV) (h : List AObj) (K : AOut → List AObj → Prop) : funW (ctx F S fA.loops) Tryz.f105 [t0] h K = fA.H (ctx F S fA.loops) t0 h K := by kernel_rfl
theorem fG.eq (F : List (FuncId × aE)) (S : List (FuncId × Con)) (t0 : AV) (h : List AObj) (K : AOut → List AObj → Prop) : funW (ctx F S fG.loops) Tryz.f107 [t0] h K = fG.H (ctx F S fG.loops) t0 h K := by kernel_rfl
theorem cK.at : Tryz.prog.funcs[46]? = some Tryz.f46 := by kernel_rfl
theorem cK.nm : (Tryz.f46.name == "runtime.NumGoroutine") = false := by kernel_rfl
theorem cK.bd : Tryz.f46.body.isNone = false := by kernel_rfl
theorem fJ.at : Tryz.prog.funcs[57]? = some Tryz.f57 := by kernel_rfl
theorem fJ.nm : (Tryz.f57.name == "runtime.NumGoroutine") = false := by kernel_rfl
theorem fJ.bd : Tryz.f57.body.isNone = false := by kernel_rfl
theorem gM.at : Tryz.prog.funcs[86]? = some Tryz.f86 := by kernel_rfl
theorem gM.nm : (Tryz.f86.name == "runtime.NumGoroutine") = false := by kernel_rfl
theorem gM.bd : Tryz.f86.body.isNone = false := by kernel_rfl
theorem gN.at : Tryz.prog.funcs[87]? = some Tryz.f87 := by kernel_rfl
theorem gN.nm : (Tryz.f87.name == "runtime.NumGoroutine") = false := by kernel_rfl
theorem gN.bd : Tryz.f87.body.isNone = false := by kernel_rfl
theorem fA.at : Tryz.prog.funcs[105]? = some Tryz.f105 := by kernel_rfl
theorem fA.nm : (Tryz.f105.name == "runtime.NumGoroutine") = false := by kernel_rfl
theorem fA.bd : Tryz.f105.body.isNone = false := by kernel_rfl
theorem fG.at : Tryz.prog.funcs[107]? = some Tryz.f107 := by kernel_rfl
theorem fG.nm : (Tryz.f107.name == "runtime.NumGoroutine") = false := by kernel_rfl
theorem fG.bd : Tryz.f107.body.isNone = false := by kernel_rfl
end Lam
namespace Lam
open Go Go.Proofs
def eA.loops : Nat → bU
 | 1 => ⟨[], [], [], [(8, none), (5, some [14, 19])], [], []⟩
 | 6 => ⟨[28], [false], [1, 3, 4, 26, 27], [], [], []⟩
 | 8 => ⟨[], [], [], [(4, none), (5, some [35, 40]), (2, none), (9, some [42, 51])], [], []⟩
 | 10 => ⟨[], [], [], [(10, none), (3, some [62, 65])], [], []⟩
 | _ => ⟨[], [], [], [], [], []⟩
def eA.L1 (c : Ctx) (J2 : AV → AV → List AObj → Prop) (K : AOut → List AObj → Prop) (lv : List AV) (h0 : List AObj) (n0 : Nat) (c1 : AV) (c3 : AV) (c4 : AV) (c26 : AV) (c27 : AV) : Prop :=
 ∃ I : Nat → List AV → List AObj → Prop, (∃ n, I n lv h0) ∧ ∀ n h, ∀ t28, I n [t28] h →
 runD (binD aB .lss t28 c27) h fun t29 h =>
 bE t29
 (runD (aG cG h c26 t28) h fun t30 h =>
 runD (fitD cY (aD h t30)) h fun t31 h =>
 cS cY h fun t6 h =>
 runH (aR cY h t6 t31) h fun _ h =>
 runD (aC cY t6 0) h fun t32 h =>
 runD (fitD aB (aD h t32)) h fun t33 h =>
 runD (binD aB .lss t33 (.int .i64 0)) h fun t34 h =>
 aL (fun (J3 : AV → AV → List AObj → Prop) =>
 bF t34 false
 (runD (aC cY t6 0) h fun t36 h =>
 runD (fitD aB (aD h t36)) h fun t37 h =>
 runD (lenD aK h c3) h fun t39 h =>
 runD (binD aB .geq t37 t39) h fun t40 h =>
 J3 (.bool false) t40 h)
 (J3 (.bool true) .und h))
 (fun t35 t40 h => runD (bT t35 (.bool true) t40) h fun t41 h =>
 aL (fun (J4 : AV → AV → List AObj → Prop) =>
 bF t41 false
 (runD (aC cY t6 2) h fun t43 h =>
 runD (fitD lB (aD h t43)) h fun t44 h =>
 aL (fun (J5 : AV → AV → List AObj → Prop) =>
 bF t44 true
 (runD (aC cY t6 0) h fun t47 h =>
 runD (fitD aB (aD h t47)) h fun t48 h =>
 runD (binD aB .quo t48 (.int .i64 8)) h fun t49 h =>
 runD (lW lX h c4 t49) h fun t50 h =>
 J5 (.bool true) t50 h)
 (J5 (.bool false) .und h))
 (fun t45 t50 h => runD (bT t45 t50 (.bool false)) h fun t51 h =>
 J4 (.bool false) t51 h))
 (J4 (.bool true) .und h))
 (fun t42 t51 h => runD (bT t42 (.bool true) t51) h fun t52 h =>
 bE t52
 (K (.ret (.bool false)) h)
 (runD (aC cY t6 0) h fun t54 h =>
 runD (fitD aB (aD h t54)) h fun t55 h =>
 runD (binD aB .quo t55 (.int .i64 8)) h fun t56 h =>
 runD (aC cY t6 0) h fun t58 h =>
 runD (fitD aB (aD h t58)) h fun t59 h =>
 runD (binD aB .quo t59 (.int .i64 8)) h fun t60 h =>
 runD (lW lX h c4 t60) h fun t61 h =>
 aL (fun (J6 : AV → AV → List AObj → Prop) =>
 bF t61 false
 (runD (aC cY t6 2) h fun t63 h =>
 runD (fitD lB (aD h t63)) h fun t64 h =>
 runD (unD .not t64) h fun t65 h =>
 J6 (.bool false) t65 h)
 (J6 (.bool true) .und h))
 (fun t62 t65 h => runD (bT t62 (.bool true) t65) h fun t66 h =>
 runH (jQ lX h c4 t56 t66) h fun _ h =>
 runD (aC cY t6 0) h fun t68 h =>
 runD (fitD aB (aD h t68)) h fun t69 h =>
 runD (aC cY t6 1) h fun t70 h =>
 runD (fitD aB (aD h t70)) h fun t71 h =>
 runD (aG aK h c3 t69) h fun t72 h =>
 runH (aR aB h t72 t71) h fun _ h =>
 runD (binD aB .add t28 (.int .i64 1)) h fun t73 h =>
 (∃ m, m < n ∧ I m (AV.norms n0 h [t73]) (cJ n0 h)) ∧ AV.norms n0 h [c1, c3, c4, c26, c27] = [c1, c3, c4, c26, c27])))))
 (J2 c1 c3 h)
def eA.H (c : Ctx) (t0 : AV) (h : List AObj) (K : AOut → List AObj → Prop) : Prop :=
 boxW aM t0 h fun t1 h =>
 runD (aC aM t1 0) h fun t7 h =>
 runD (fitD aK (aD h t7)) h fun t8 h =>
 runD (lenD aK h t8) h fun t9 h =>
 runD (aC aM t1 1) h fun t10 h =>
 runD (fitD aK (aD h t10)) h fun t11 h =>
 runD (lenD aK h t11) h fun t12 h =>
 runD (binD aB .neq t9 t12) h fun t13 h =>
 aL (fun (J1 : AV → AV → List AObj → Prop) =>
 bF t13 false
 (runD (aC aM t1 0) h fun t15 h =>
 runD (fitD aK (aD h t15)) h fun t16 h =>
 runD (lenD aK h t16) h fun t17 h =>
 aP false c (.fn (.func 33) [] []) [t17] h (fun t18 h =>
 runD (unD .not t18) h fun t19 h =>
 J1 (.bool false) t19 h)
 (fun v h => K (.pan v) h))
 (J1 (.bool true) .und h))
 (fun t14 t19 h => runD (bT t14 (.bool true) t19) h fun t20 h =>
 bE t20
 (K (.ret (.bool false)) h)
 (runD (aC aM t1 1) h fun t21 h =>
 runD (fitD aK (aD h t21)) h fun t22 h =>
 aP false c (.fn (.func 34) [] []) [t22] h (fun t23 h =>
 runD (kR lX h.length) h fun t24 h =>
 runD (aC aM t1 2) h fun t25 h =>
 runD (fitD cG (aD h t25)) h fun t26 h =>
 runD (lenD cG h t26) h fun t27 h =>
 aL (fun (J2 : AV → AV → List AObj → Prop) =>
 dM [false] [(.int .i64 0)] h fun lv h => eA.L1 c J2 K (AV.norms h.length h lv) (cJ h.length h) h.length (AV.norm h.length h t1) (AV.norm h.length h t23) (AV.norm h.length h t24) (AV.norm h.length h t26) (AV.norm h.length h t27))
 (fun t1 t3 h => runD (aC aM t1 0) h fun t75 h =>
 runD (fitD aK (aD h t75)) h fun t76 h =>
 aP false c (.fn (.func 35) [] []) [t3, t76] h (fun t77 h =>
 K (.ret t77) h)
 (fun v h => K (.pan v) h)))
 (fun v h => K (.pan v) h)))
def gU.loops : Nat → bU
 | _ => ⟨[], [], [], [], [], []⟩
def gU.H (c : Ctx) (t0 : AV) (h : List AObj) (K : AOut → List AObj → Prop) : Prop :=
 cS aM h fun t2 h =>
 runD (lenD aK h t0) h fun t5 h =>
 aP false c (.fn (.func 33) [] []) [t5] h (fun t6 h =>
 runD (unD .not t6) h fun t7 h =>
 bE t7
 (runD (gY aM []) h fun t8 h =>
 runH (aR aM h t2 t8) h fun _ h =>
 dA (fitD aM (aD h t2)) fun r0 => K (.ret (.tup [r0, (.int .i64 40)])) h)
 (aP false c (.fn (.func 34) [] []) [t0] h (fun t10 h =>
 aP false c (.fn (.func 34) [] []) [t0] h (fun t12 h =>
 runD (gY aM [(0, t10), (1, t12)]) h fun t13 h =>
 runH (aR aM h t2 t13) h fun _ h =>
 dA (fitD aM (aD h t2)) fun r0 => K (.ret (.tup [r0, (.int .i64 0)])) h)
 (fun v h => K (.pan v) h))
 (fun v h => K (.pan v) h)))
 (fun v h => K (.pan v) h)
def fK.loops : Nat → bU
 | 1 => ⟨[], [], [], [(3, none), (3, some [5, 8])], [], []⟩
 | _ => ⟨[], [], [], [], [], []⟩
def fK.H (c : Ctx) (t0 : AV) (h : List AObj) (K : AOut → List AObj → Prop) : Prop :=
 runD (binD aB .leq t0 (.int .i64 4096)) h fun t4 h =>
 aL (fun (J1 : AV → AV → List AObj → Prop) =>
 bF t4 true
 (runD (binD aB .rem t0 (.int .i64 8)) h fun t7 h =>
 runD (binD aB .eql t7 (.int .i64 0)) h fun t8 h =>
 J1 (.bool true) t8 h)
 (J1 (.bool false) .und h))
 (fun t5 t8 h => runD (bT t5 t8 (.bool false)) h fun t9 h =>
 K (.ret t9) h)
def iJ.loops : Nat → bU
 | _ => ⟨[], [], [], [], [], []⟩
def iJ.H (c : Ctx) (t0 : AV) (t1 : AV) (t2 : AV) (h : List AObj) (K : AOut → List AObj → Prop) : Prop :=
 boxW aM t0 h fun t3 h =>
 cS aM h fun t6 h =>
 runD (fitD aM (aD h t3)) h fun t9 h =>
 aP false c (.fn (.func 152) [] []) [t9, t1] h (fun t11 h =>
 runD (unD .not t11) h fun t12 h =>
 bE t12
 (runD (fitD aM (aD h t3)) h fun t13 h =>
 runH (aR aM h t6 t13) h fun _ h =>
 dA (fitD aM (aD h t6)) fun r0 => K (.ret (.tup [r0, (.int .i64 40)])) h)
 (runD (aC aM t3 0) h fun t14 h =>
 runD (fitD aK (aD h t14)) h fun t15 h =>
 runD (lenD aK h t15) h fun t16 h =>
 runD (kB aK t16 t16 h.length) h fun t17 h =>
 runD (aC aM t3 0) h fun t19 h =>
 runD (fitD aK (aD h t19)) h fun t20 h =>
 runM (mA aK h t17 t20) h fun t21 h =>
 runD (aG aK h t17 t1) h fun t25 h =>
 runH (aR aB h t25 t2) h fun _ h =>
 runD (aC aM t3 1) h fun t27 h =>
 runD (fitD aK (aD h t27)) h fun t28 h =>
 runD (aC aM t3 2) h fun t29 h =>
 runD (fitD cG (aD h t29)) h fun t30 h =>
 aP false c.noS (.fn (.func 153) [] []) [t30] h (fun t31 h =>
 runD (gY cY [(0, t1), (1, t2)]) h fun t34 h =>
 runD (gC cG 1 [(0, t34)] h.length) h fun t35 h =>
 kC (gS cG h t31 t35 h.length) (iC cG h t31 t35) h fun t36 h =>
 runD (gY aM [(0, t17), (1, t28), (2, t36)]) h fun t37 h =>
 runH (aR aM h t6 t37) h fun _ h =>
 sepB t31 [t27] = true ∧ dA (fitD aM (aD h t6)) fun r0 => K (.ret (.tup [r0, (.int .i64 0)])) h)
 (fun _ _ => False)))
 (fun v h => K (.pan v) h)
def gD.loops : Nat → bU
 | _ => ⟨[], [], [], [], [], []⟩
def gD.H (c : Ctx) (t0 : AV) (t1 : AV) (h : List AObj) (K : AOut → List AObj → Prop) : Prop :=
 boxW aM t0 h fun t2 h =>
 cS aM h fun t4 h =>
 runD (fitD aM (aD h t2)) h fun t8 h =>
 runD (fitD aM (aD h t2)) h fun t9 h =>
 aP false c.noS (.fn (.func 154) [] []) [t9, t1] h (fun t11 h =>
 aP false c.noS (.fn (.func 152) [] []) [t8, t11] h (fun t12 h =>
 runD (unD .not t12) h fun t13 h =>
 bE t13
 (runD (fitD aM (aD h t2)) h fun t14 h =>
 runH (aR aM h t4 t14) h fun _ h =>
 dA (fitD aM (aD h t4)) fun r0 => K (.ret (.tup [r0, (.int .i64 40)])) h)
 (runD (aC aM t2 2) h fun t15 h =>
 runD (fitD cG (aD h t15)) h fun t16 h =>
 aP false c (.fn (.func 155) [] []) [t16] h (fun t17 h =>
 cS cG h fun t6 h =>
 runH (aR cG h t6 t17) h fun _ h =>
 runD (fitD aM (aD h t2)) h fun t18 h =>
 aP false c (.fn (.func 156) [] []) [t18, t1] h (fun t20 h =>
 aL (fun (J1 : AV → AV → AV → List AObj → Prop) =>
 xG c.iterS t20 h
 (fun id r args h K => lpIs h id .ready r ∧ aAT args fun t21 =>
 lpIs h id .ready r ∧
 runD (fitD cG (aD (List.set h id (.lp .busy none r)) t6)) (List.set h id (.lp .busy none r)) fun t22 h =>
 runD (aG cG h t22 t21) h fun t24 h =>
 runD (aC cY t24 2) h fun t25 h =>
 runH (aR lB h t25 (.bool true)) h fun _ h =>
 lpIs h id .busy r ∧ K (.ret (.bool true)) (List.set h id (.lp .ready none r)))
 (fun id r ao h => endX id r ao h
 (fun h => J1 t2 t4 t6 h)
 (fun h => dA (fitD aM (aD h t4)) fun r0 => K (.ret (.tup [r0, (.int .i64 0)])) h)
 (fun i h => aFl i 0 (J1 t2 t4 t6 h) (False))
 (fun l h => False)
 (fun v h => K (.pan v) h)))
 (fun t2 t4 t6 h => runD (fitD cG (aD h t6)) h fun t26 h =>
 runD (aC aM t2 2) h fun t27 h =>
 runH (aR cG h t27 t26) h fun _ h =>
 runD (fitD aM (aD h t2)) h fun t28 h =>
 runH (aR aM h t4 t28) h fun _ h =>
 dA (fitD aM (aD h t4)) fun r0 => K (.ret (.tup [r0, (.int .i64 0)])) h))
 (fun v h => K (.pan v) h))
 (fun v h => K (.pan v) h)))
 (fun _ _ => False))
 (fun _ _ => False)
def gE.loops : Nat → bU
 | _ => ⟨[], [], [], [], [], []⟩
def gE.H (c : Ctx) (t0 : AV) (h : List AObj) (K : AOut → List AObj → Prop) : Prop :=
 boxW aM t0 h fun t1 h =>
 cS aM h fun t2 h =>
 runD (fitD aM (aD h t1)) h fun t4 h =>
 aP false c (.fn (.func 13) [] []) [t4] h (fun t5 h =>
 runD (unD .not t5) h fun t6 h =>
 bE t6
 (runD (fitD aM (aD h t1)) h fun t7 h =>
 runH (aR aM h t2 t7) h fun _ h =>
 dA (fitD aM (aD h t2)) fun r0 => K (.ret (.tup [r0, (.int .i64 40)])) h)
 (runD (fitD aM (aD h t1)) h fun t8 h =>
 aP false c (.fn (.func 157) [] []) [t8, (.fn (.func 158) [] [])] h (fun t9 h =>
 runH (aR aM h t2 t9) h fun _ h =>
 dA (fitD aM (aD h t2)) fun r0 => K (.ret (.tup [r0, (.int .i64 0)])) h)
 (fun v h => K (.pan v) h)))
 (fun v h => K (.pan v) h)
def fL.loops : Nat → bU
 | 1 => ⟨[], [], [], [(3, none), (5, some [7, 12]), (2, none), (2, some [14, 16])], [], []⟩
 | _ => ⟨[], [], [], [], [], []⟩
def fL.H (c : Ctx) (t0 : AV) (t1 : AV) (h : List AObj) (K : AOut → List AObj → Prop) : Prop :=
 boxW aM t0 h fun t2 h =>
 runD (binD aB .geq t1 (.int .i64 0)) h fun t6 h =>
 aL (fun (J1 : AV → AV → List AObj → Prop) =>
 bF t6 true
 (runD (aC aM t2 0) h fun t9 h =>
 runD (fitD aK (aD h t9)) h fun t10 h =>
 runD (lenD aK h t10) h fun t11 h =>
 runD (binD aB .lss t1 t11) h fun t12 h =>
 J1 (.bool true) t12 h)
 (J1 (.bool false) .und h))
 (fun t7 t12 h => runD (bT t7 t12 (.bool false)) h fun t13 h =>
 aL (fun (J2 : AV → AV → List AObj → Prop) =>
 bF t13 true
 (runD (fitD aM (aD h t2)) h fun t15 h =>
 aP false c (.fn (.func 13) [] []) [t15] h (fun t16 h =>
 J2 (.bool true) t16 h)
 (fun v h => K (.pan v) h))
 (J2 (.bool false) .und h))
 (fun t14 t16 h => runD (bT t14 t16 (.bool false)) h fun t17 h =>
 K (.ret t17) h))
def gO.loops : Nat → bU
 | 1 => ⟨[], [], [], [(3, none), (6, some [7, 13])], [], []⟩
 | _ => ⟨[], [], [], [], [], []⟩
def gO.H (c : Ctx) (t0 : AV) (t1 : AV) (h : List AObj) (K : AOut → List AObj → Prop) : Prop :=
 boxW aM t0 h fun t2 h =>
 runD (binD aB .lss t1 (.int .i64 0)) h fun t6 h =>
 aL (fun (J1 : AV → AV → List AObj → Prop) =>
 bF t6 false
 (runD (aC aM t2 0) h fun t9 h =>
 runD (fitD aK (aD h t9)) h fun t10 h =>
 runD (lenD aK h t10) h fun t11 h =>
 runD (binD aB .quo t11 (.int .i64 8)) h fun t12 h =>
 runD (binD aB .geq t1 t12) h fun t13 h =>
 J1 (.bool false) t13 h)
 (J1 (.bool true) .und h))
 (fun t7 t13 h => runD (bT t7 (.bool true) t13) h fun t14 h =>
 bE t14
 (K (.ret (.int .i64 (-1))) h)
 (runD (binD aB .mul t1 (.int .i64 8)) h fun t16 h =>
 K (.ret t16) h))
def iU.loops : Nat → bU
 | _ => ⟨[], [], [], [], [], []⟩
def iU.H (c : Ctx) (t0 : AV) (t1 : AV) (h : List AObj) (K : AOut → List AObj → Prop) : Prop :=
 boxW aM t0 h fun t2 h =>
 boxW aB t1 h fun t3 h =>
 K (.ret (.fn (.func 159) [] [t2, t3])) h
def fO.loops : Nat → bU
 | 3 => ⟨[17], [false], [1, 4, 5, 15, 16], [], [5], []⟩
 | _ => ⟨[], [], [], [], [], []⟩
def fO.L1 (c : Ctx) (J1 : AV → AV → List AObj → Prop) (K : AOut → List AObj → Prop) (lv : List AV) (h0 : List AObj) (n0 : Nat) (c1 : AV) (c4 : AV) (c5 : AV) (c15 : AV) (c16 : AV) : Prop :=
 ∃ I : Nat → List AV → List AObj → Prop, (∃ n, I n lv h0) ∧ ∀ n h, ∀ t17, I n [t17] h →
 runD (binD aB .lss t17 c16) h fun t18 h =>
 bE t18
 (aL (fun (J2 : List AObj → Prop) =>
 runD (aG cG h c15 t17) h fun t19 h =>
 runD (fitD cY (aD h t19)) h fun t20 h =>
 cS cY h fun t7 h =>
 runH (aR cY h t7 t20) h fun _ h =>
 runD (fitD cY (aD h t7)) h fun t22 h =>
 aP false c c1 [t22] h (fun t23 h =>
 bE t23
 (runD (aC aM c5 1) h fun t24 h =>
 runD (fitD aK (aD h t24)) h fun t25 h =>
 runD (aC cY t7 0) h fun t26 h =>
 runD (fitD aB (aD h t26)) h fun t27 h =>
 runD (aC cY t7 1) h fun t28 h =>
 runD (fitD aB (aD h t28)) h fun t29 h =>
 runD (aG aK h t25 t27) h fun t30 h =>
 runH (aR aB h t30 t29) h fun _ h =>
 J2 h)
 (runD (aC aM c5 2) h fun t31 h =>
 runD (fitD cG (aD h t31)) h fun t32 h =>
 runD (fitD cY (aD h t7)) h fun t33 h =>
 runD (gC cG 1 [(0, t33)] h.length) h fun t34 h =>
 kC (gS cG h t32 t34 h.length) (iC cG h t32 t34) h fun t35 h =>
 runD (aC aM c5 2) h fun t36 h =>
 runH (aR cG h t36 t35) h fun _ h =>
 J2 h))
 (fun v h => K (.pan v) h))
 (fun h => runD (binD aB .add t17 (.int .i64 1)) h fun t37 h =>
 (∃ m, m < n ∧ I m (AV.norms n0 h [t37]) (cJ n0 h)) ∧ AV.norms n0 h [c1, c4, c5, c15, c16] = [c1, c4, c5, c15, c16]))
 (J1 c4 c5 h)
def fO.H (c : Ctx) (t0 : AV) (t1 : AV) (h : List AObj) (K : AOut → List AObj → Prop) : Prop :=
 boxW aM t0 h fun t2 h =>
 cS aM h fun t4 h =>
 runD (aC aM t2 0) h fun t8 h =>
 runD (fitD aK (aD h t8)) h fun t9 h =>
 runD (aC aM t2 1) h fun t10 h =>
 runD (fitD aK (aD h t10)) h fun t11 h =>
 aP false c.noS (.fn (.func 34) [] []) [t11] h (fun t12 h =>
 runD (gY aM [(0, t9), (1, t12)]) h fun t13 h =>
 cS aM h fun t5 h =>
 runH (aR aM h t5 t13) h fun _ h =>
 runD (aC aM t2 2) h fun t14 h =>
 runD (fitD cG (aD h t14)) h fun t15 h =>
 runD (lenD cG h t15) h fun t16 h =>
 aL (fun (J1 : AV → AV → List AObj → Prop) =>
 dM [false] [(.int .i64 0)] (boxH [t5] h) fun lv h => fO.L1 c J1 K (AV.norms h.length h lv) (cJ h.length h) h.length (AV.norm h.length h t1) (AV.norm h.length h t4) (AV.norm h.length h t5) (AV.norm h.length h t15) (AV.norm h.length h t16))
 (fun t4 t5 h => runD (fitD aM (aD h t5)) h fun t38 h =>
 runH (aR aM h t4 t38) h fun _ h =>
 dA (fitD aM (aD h t4)) fun r0 => K (.ret r0) h))
 (fun _ _ => False)
def eO.loops : Nat → bU
 | _ => ⟨[], [], [], [], [], []⟩
def eO.H (c : Ctx) (t0 : AV) (h : List AObj) (K : AOut → List AObj → Prop) : Prop :=
 boxW cY t0 h fun t1 h =>
 runD (aC cY t1 2) h fun t3 h =>
 runD (fitD lB (aD h t3)) h fun t4 h =>
 K (.ret t4) h
def fP.loops : Nat → bU
 | 1 => ⟨[9], [false], [0, 2, 7, 8], [], [], []⟩
 | 3 => ⟨[], [], [], [(6, none), (4, some [19, 23])], [], []⟩
 | _ => ⟨[], [], [], [], [], []⟩
def fP.L1 (c : Ctx) (J1 : List AObj → Prop) (K : AOut → List AObj → Prop) (lv : List AV) (h0 : List AObj) (n0 : Nat) (c0 : AV) (c2 : AV) (c7 : AV) (c8 : AV) : Prop :=
 ∃ I : Nat → List AV → List AObj → Prop, (∃ n, I n lv h0) ∧ ∀ n h, ∀ t9, I n [t9] h →
 runD (binD aB .lss t9 c8) h fun t10 h =>
 bE t10
 (runD (aG cG h c7 t9) h fun t12 h =>
 runD (fitD cY (aD h t12)) h fun t13 h =>
 cS cY h fun t5 h =>
 runH (aR cY h t5 t13) h fun _ h =>
 runD (aC cY t5 0) h fun t14 h =>
 runD (fitD aB (aD h t14)) h fun t15 h =>
 runD (binD aB .quo t15 (.int .i64 8)) h fun t16 h =>
 runD (fitD aB (aD h c2)) h fun t17 h =>
 runD (binD aB .eql t16 t17) h fun t18 h =>
 aL (fun (J2 : AV → AV → List AObj → Prop) =>
 bF t18 true
 (aP false c c0 [t9] h (fun t22 h =>
 runD (unD .not t22) h fun t23 h =>
 J2 (.bool true) t23 h)
 (fun v h => K (.pan v) h))
 (J2 (.bool false) .und h))
 (fun t19 t23 h => runD (bT t19 t23 (.bool false)) h fun t24 h =>
 bE t24
 (K (.ret (.tup [])) h)
 (runD (binD aB .add t9 (.int .i64 1)) h fun t25 h =>
 (∃ m, m < n ∧ I m (AV.norms n0 h [t25]) (cJ n0 h)) ∧ AV.norms n0 h [c0, c2, c7, c8] = [c0, c2, c7, c8])))
 (J1 h)
def fP.H (c : Ctx) (t0 : AV) (t1 : AV) (t2 : AV) (h : List AObj) (K : AOut → List AObj → Prop) : Prop :=
 runD (aC aM t1 2) h fun t6 h =>
 runD (fitD cG (aD h t6)) h fun t7 h =>
 runD (lenD cG h t7) h fun t8 h =>
 aL (fun (J1 : List AObj → Prop) =>
 dM [false] [(.int .i64 0)] h fun lv h => fP.L1 c J1 K (AV.norms h.length h lv) (cJ h.length h) h.length (AV.norm h.length h t0) (AV.norm h.length h t2) (AV.norm h.length h t7) (AV.norm h.length h t8))
 (fun h => K (.ret (.tup [])) h)
theorem eA.eq (F : List (FuncId × aE)) (S : List (FuncId × Con)) (t0 : AV) (h : List AObj) (K : AOut → List AObj → Prop) : funW (ctx F S eA.loops) Tryz.f13 [t0] h K = eA.H (ctx F S eA.loops) t0 h K := by kernel_rfl
theorem gU.eq (F : List (FuncId × aE)) (S : List (FuncId × Con)) (t0 : AV) (h : List AObj) (K : AOut → List AObj → Prop) : funW (ctx F S gU.loops) Tryz.f28 [t0] h K = gU.H (ctx F S gU.loops) t0 h K := by kernel_rfl
theorem fK.eq (F : List (FuncId × aE)) (S : List (FuncId × Con)) (t0 : AV) (h : List AObj) (K : AOut → List AObj → Prop) : funW (ctx F S fK.loops) Tryz.f33 [t0] h K = fK.H (ctx F S fK.loops) t0 h K := by kernel_rfl
theorem iJ.eq (F : List (FuncId × aE)) (S : List (FuncId × Con)) (t0 t1 t2 : AV) (h : List AObj) (K : AOut → List AObj → Prop) : funW (ctx F S iJ.loops) Tryz.f148 [t0, t1, t2] h K = iJ.H (ctx F S iJ.loops) t0 t1 t2 h K := by kernel_rfl
theorem gD.eq (F : List (FuncId × aE)) (S : List (FuncId × Con)) (Is : List (FuncId × (Con → Con))) (t0 t1 : AV) (h : List AObj) (K : AOut → List AObj → Prop) : funW (ctxI F S Is gD.loops) Tryz.f149 [t0, t1] h K = gD.H (ctxI F S Is gD.loops) t0 t1 h K := by kernel_rfl
theorem gE.eq (F : List (FuncId × aE)) (S : List (FuncId × Con)) (t0 : AV) (h : List AObj) (K : AOut → List AObj → Prop) : funW (ctx F S gE.loops) Tryz.f150 [t0] h K = gE.H (ctx F S gE.loops) t0 h K := by kernel_rfl
theorem fL.eq (F : List (FuncId × aE)) (S : List (FuncId × Con)) (t0 t1 : AV) (h : List AObj) (K : AOut → List AObj → Prop) : funW (ctx F S fL.loops) Tryz.f152 [t0, t1] h K = fL.H (ctx F S fL.loops) t0 t1 h K := by kernel_rfl
theorem gO.eq (F : List (FuncId × aE)) (S : List (FuncId × Con)) (t0 t1 : AV) (h : List AObj) (K : AOut → List AObj → Prop) : funW (ctx F S gO.loops) Tryz.f154 [t0, t1] h K = gO.H (ctx F S gO.loops) t0 t1 h K := by kernel_rfl
theorem iU.eq (F : List (FuncId × aE)) (S : List (FuncId × Con)) (t0 t1 : AV) (h : List AObj) (K : AOut → List AObj → Prop) : funW (ctx F S iU.loops) Tryz.f156 [t0, t1] h K = iU.H (ctx F S iU.loops) t0 t1 h K := by kernel_rfl
theorem fO.eq (F : List (FuncId × aE)) (S : List (FuncId × Con)) (t0 t1 : AV) (h : List AObj) (K : AOut → List AObj → Prop) : funW (ctx F S fO.loops) Tryz.f157 [t0, t1] h K = fO.H (ctx F S fO.loops) t0 t1 h K := by kernel_rfl
theorem eO.eq (F : List (FuncId × aE)) (S : List (FuncId × Con)) (t0 : AV) (h : List AObj) (K : AOut → List AObj → Prop) : funW (ctx F S eO.loops) Tryz.f158 [t0] h K = eO.H (ctx F S eO.loops) t0 h K := by kernel_rfl
theorem fP.eq (F : List (FuncId × aE)) (S : List (FuncId × Con)) (l : Nat) (Y : Con) (t0 t1 t2 : AV) (h : List AObj) (K : AOut → List AObj → Prop) : funW ((ctx F S fP.loops).withY l Y) Tryz.f159 [t0, t1, t2] h K = fP.H ((ctx F S fP.loops).withY l Y) t0 t1 t2 h K := by kernel_rfl
theorem eA.at : Tryz.prog.funcs[13]? = some Tryz.f13 := by kernel_rfl
theorem eA.nm : (Tryz.f13.name == "runtime.NumGoroutine") = false := by kernel_rfl
theorem eA.bd : Tryz.f13.body.isNone = false := by kernel_rfl
theorem gU.at : Tryz.prog.funcs[28]? = some Tryz.f28 := by kernel_rfl
theorem gU.nm : (Tryz.f28.name == "runtime.NumGoroutine") = false := by kernel_rfl
theorem gU.bd : Tryz.f28.body.isNone = false := by kernel_rfl
theorem fK.at : Tryz.prog.funcs[33]? = some Tryz.f33 := by kernel_rfl
theorem fK.nm : (Tryz.f33.name == "runtime.NumGoroutine") = false := by kernel_rfl
theorem fK.bd : Tryz.f33.body.isNone = false := by kernel_rfl
theorem iJ.at : Tryz.prog.funcs[148]? = some Tryz.f148 := by kernel_rfl
theorem iJ.nm : (Tryz.f148.name == "runtime.NumGoroutine") = false := by kernel_rfl
theorem iJ.bd : Tryz.f148.body.isNone = false := by kernel_rfl
theorem gD.at : Tryz.prog.funcs[149]? = some Tryz.f149 := by kernel_rfl
theorem gD.nm : (Tryz.f149.name == "runtime.NumGoroutine") = false := by kernel_rfl
theorem gD.bd : Tryz.f149.body.isNone = false := by kernel_rfl
theorem gE.at : Tryz.prog.funcs[150]? = some Tryz.f150 := by kernel_rfl
theorem gE.nm : (Tryz.f150.name == "runtime.NumGoroutine") = false := by kernel_rfl
theorem gE.bd : Tryz.f150.body.isNone = false := by kernel_rfl
theorem fL.at : Tryz.prog.funcs[152]? = some Tryz.f152 := by kernel_rfl
theorem fL.nm : (Tryz.f152.name == "runtime.NumGoroutine") = false := by kernel_rfl
theorem fL.bd : Tryz.f152.body.isNone = false := by kernel_rfl
theorem gO.at : Tryz.prog.funcs[154]? = some Tryz.f154 := by kernel_rfl
theorem gO.nm : (Tryz.f154.name == "runtime.NumGoroutine") = false := by kernel_rfl
theorem gO.bd : Tryz.f154.body.isNone = false := by kernel_rfl
theorem iU.at : Tryz.prog.funcs[156]? = some Tryz.f156 := by kernel_rfl
theorem iU.nm : (Tryz.f156.name == "runtime.NumGoroutine") = false := by kernel_rfl
theorem iU.bd : Tryz.f156.body.isNone = false := by kernel_rfl
theorem fO.at : Tryz.prog.funcs[157]? = some Tryz.f157 := by kernel_rfl
theorem fO.nm : (Tryz.f157.name == "runtime.NumGoroutine") = false := by kernel_rfl
theorem fO.bd : Tryz.f157.body.isNone = false := by kernel_rfl
theorem eO.at : Tryz.prog.funcs[158]? = some Tryz.f158 := by kernel_rfl
theorem eO.nm : (Tryz.f158.name == "runtime.NumGoroutine") = false := by kernel_rfl
theorem eO.bd : Tryz.f158.body.isNone = false := by kernel_rfl
theorem fP.at : Tryz.prog.funcs[159]? = some Tryz.f159 := by kernel_rfl
theorem fP.nm : (Tryz.f159.name == "runtime.NumGoroutine") = false := by kernel_rfl
theorem fP.bd : Tryz.f159.body.isNone = false := by kernel_rfl
end Lam
namespace Lam
open Go Go.Proofs
def fK.C : aE
  | [.int .i64 n] => some (false, pD True (.bool (szB n)))
  | _ => none
theorem fK.spec : bN Tryz.prog 33 fK.C := by
  refine bN.of (bQ (F := []) (S := []) (by simp) (by simp) fK.loops) fK.at fK.nm fK.bd ?_
  intro vs b S v news e hS
  unfold fK.C at e
  split at e
  rotate_left
  · cases e
  cases e
  rw [fK.eq]
  unfold fK.H
  simp (maxSteps := 4000000) only [go_sem, reduceEqDiff, Nat.reduceLT, reduceAdd, reduceSub, reduceLeDiff, reduceReplicate, reduceToNat]
  exact ⟨fun _ => by decide, aH rfl rfl⟩

def aY.C : aE
  | [.sl _ (.ints .i64 l)] => some (true, some (roomy l.length, .sref false 0 0 0 l.length, [.row .own 0 (.ints .i64 l)]))
  | _ => none
theorem aY.spec : bN Tryz.prog 34 aY.C := by
  refine bN.of (bQ (F := []) (S := []) (by simp) (by simp) aY.loops) aY.at aY.nm aY.bd ?_
  intro vs b S v news e hS
  unfold aY.C at e
  split at e
  rotate_left
  · cases e
  cases e
  rw [aY.eq]
  unfold aY.H
  simp (maxSteps := 4000000) only [go_sem, reduceEqDiff, Nat.reduceLT, reduceAdd, reduceSub, reduceLeDiff, reduceReplicate, reduceToNat]
  rename_i l
  intro b hb
  refine ⟨fun h => ?_, fun h => ⟨hS, yS rfl (by simp)⟩⟩
  have : l = [] := List.eq_nil_of_length_eq_zero (hb h)
  subst this
  exact aGi rfl
def bI.C : aE
  | [.sl _ (.pends l)] => some (true, some (roomy l.length, .sref false 0 0 0 l.length, [.row .own 0 (.pends l)]))
  | _ => none
theorem bI.spec : bN Tryz.prog 155 bI.C := by
  refine bN.of (bQ (F := []) (S := []) (by simp) (by simp) bI.loops) bI.at bI.nm bI.bd ?_
  intro vs b S v news e hS
  unfold bI.C at e
  split at e
  rotate_left
  · cases e
  cases e
  rw [bI.eq]
  unfold bI.H
  simp (maxSteps := 4000000) only [go_sem, reduceEqDiff, Nat.reduceLT, reduceAdd, reduceSub, reduceLeDiff, reduceReplicate, reduceToNat]
  rename_i l
  intro b hb
  refine ⟨fun h => ?_, fun h => ⟨hS, yS rfl (by simp)⟩⟩
  have : l = [] := List.eq_nil_of_length_eq_zero (hb h)
  subst this
  exact aGi rfl
def bJ.C : aE
  | [.sl _ (.pends l)] => some (false, pD True (.sl true (.pends l)))
  | _ => none
theorem bJ.spec : bN Tryz.prog 153 bJ.C := by
  refine bN.of (bQ (F := []) (S := []) (by simp) (by simp) bJ.loops) bJ.at bJ.nm bJ.bd ?_
  intro vs b S v news e hS
  unfold bJ.C at e
  split at e
  rotate_left
  · cases e
  cases e
  rw [bJ.eq]
  unfold bJ.H
  simp (maxSteps := 4000000) only [go_sem, reduceEqDiff, Nat.reduceLT, reduceAdd, reduceSub, reduceLeDiff, reduceReplicate, reduceToNat]
  exact ⟨by omega, aKl rfl⟩
def bV.C : aE
  | [.sl _ (.ints .i64 a), .sl _ (.ints .i64 b)] => some (false, pD (roomy a.length) (.bool (decide (a = b))))
  | _ => none
theorem bV.spec : bN Tryz.prog 35 bV.C := by
  refine bN.of (bQ (F := []) (S := []) (by simp) (by simp) bV.loops) bV.at bV.nm bV.bd ?_
  intro vs b S v news e hS
  unfold bV.C at e
  split at e
  rotate_left
  · cases e
  cases e
  rw [bV.eq]
  unfold bV.H
  simp (maxSteps := 4000000) only [go_sem, reduceEqDiff, Nat.reduceLT, reduceAdd, reduceSub, reduceLeDiff, reduceReplicate, reduceToNat]
  rename_i a _ b
  unfold roomy at hS
  refine ⟨fun hne => ?_, fun heq => ?_⟩
  · have : decide (a = b) = false := by rw [decide_eq_false_iff_not]; rintro rfl; exact hne rfl
    rw [this]; exact aH rfl rfl
  rw [aA]
  unfold bV.L1
  have hlen : a.length = b.length := by omega
  refine ⟨fun m lv h' => ∃ k : Nat, k + m = a.length ∧ lv = [.int .i64 k] ∧ h' = [] ∧ ∀ i, i < k → a.getD i 0 = b.getD i 0, ⟨a.length, 0, by omega, rfl, rfl, fun i hi => by omega⟩, ?_⟩
  rintro m h' t8 ⟨k, hk, hlv, rfl, hall⟩
  simp only [List.cons.injEq, and_true] at hlv
  subst hlv
  simp only [go_sem, reduceEqDiff, Nat.reduceLT, reduceAdd, reduceSub, reduceLeDiff, reduceReplicate, reduceToNat]
  refine ⟨fun hlt => ⟨by omega, by omega, fun h0 => ?_, fun h0 => ?_⟩, fun hge => ?_⟩
  · have : decide (a = b) = false := by rw [decide_eq_false_iff_not]; rintro rfl; exact h0 rfl
    rw [this]; exact aH rfl rfl
  · refine ⟨m - 1, by omega, k + 1, by omega, by rw [w64 (by omega) (by omega)]; rfl, ?_⟩
    intro i hi
    by_cases e : i = k
    · subst e; exact h0
    · exact hall i (by omega)
  · have : a = b := by
      apply List.ext_getElem hlen
      intro i h1 h2
      have := hall i (by omega)
      rw [List.getD_eq_getElem?_getD, List.getD_eq_getElem?_getD, List.getElem?_eq_getElem h1, List.getElem?_eq_getElem h2] at this
      exact this
    rw [decide_eq_true this]; exact aH rfl rfl

def eA.C : aE
  | [.agg [.sl false (.ints .i64 vol), .sl false (.ints .i64 per), .sl false (.pends pend)]] => some (false, pD (kP vol per pend) (.bool (nG vol per pend)))
  | _ => none
theorem eA.spec : bN Tryz.prog 13 eA.C := by
  refine bN.of (bQ (F := [(33, fK.C), (34, aY.C), (35, bV.C)]) (S := []) (by simpa using ⟨fK.spec, aY.spec, bV.spec⟩) (by simp) eA.loops) eA.at eA.nm eA.bd ?_
  intro vs b S v news e hS
  unfold eA.C at e
  split at e
  rotate_left
  · cases e
  cases e
  rw [eA.eq]
  unfold eA.H
  simp (maxSteps := 4000000) only [go_sem, reduceEqDiff, Nat.reduceLT, reduceAdd, reduceSub, reduceLeDiff, reduceReplicate, reduceToNat, fK.C, aY.C, bV.C]
  rename_i vol per pend
  obtain ⟨r1, r2, r3⟩ := hS
  unfold roomy at r1 r2 r3
  refine ⟨fun hb => ?_, fun hb => ⟨r2, ?_⟩⟩
  · have : nG vol per pend = false := by
      unfold nG
      rw [Bool.or_eq_true] at hb
      rcases hb with hb | hb
      · have : ¬ vol.length = per.length := by
          intro h; rw [h] at hb; simp at hb
        simp [this]
      · have : szB vol.length = false := by simpa using hb
        simp [this]
    rw [this]; exact aH rfl rfl
  rw [Bool.or_eq_false_iff] at hb
  have hlen : vol.length = per.length := by
    have := hb.1
    rw [Bool.not_eq_false', decide_eq_true_eq] at this
    omega
  have hsz : szB vol.length = true := by simpa using hb.2
  have hcheck : nG vol per pend = decide (chk pend per (fun _ => false) = some vol) := by unfold nG; rw [hsz, decide_eq_true hlen]; simp
  rw [hcheck, aA]
  unfold eA.L1
  refine ⟨fun m lv h' => ∃ (k : Nat) (l : List Int) (o : Int → Bool), k + m = pend.length ∧ lv = [.int .i64 k] ∧ l.length = per.length ∧ chk pend per (fun _ => false) = chk (pend.drop k) l o ∧
      h' = [.box (.agg [.sl false (.ints .i64 vol), .sl false (.ints .i64 per), .sl false (.pends pend)]), .row .own 0 (.ints .i64 l), .map (.ib o)],
    ⟨pend.length, 0, per, fun _ => false, by omega, rfl, rfl, rfl, rfl⟩, ?_⟩
  rintro m h' t28 ⟨k, l, o, hk, hlv, hll, hchk, rfl⟩
  simp only [List.cons.injEq, and_true] at hlv
  subst hlv
  simp only [go_sem, reduceEqDiff, Nat.reduceLT, reduceAdd, reduceSub, reduceLeDiff, reduceReplicate, reduceToNat, hll, aAQ]
  refine ⟨fun hlt => ⟨by omega, ?_⟩, fun hge => ?_⟩
  · have hkl : k < pend.length := by omega
    have hd : pend.drop k = pend.getD k ⟨0, 0, false⟩ :: pend.drop (k + 1) := by
      rw [List.getD_eq_getElem?_getD, List.getElem?_eq_getElem hkl, List.drop_eq_getElem_cons hkl]; rfl
    generalize pend.getD k ⟨0, 0, false⟩ = p at *
    have hch : chk (pend.drop k) l o = match badB p l.length o with
      | true => none
      | false => chk (pend.drop (k + 1)) (l.set p.at_.toNat p.val) (yU p o) := by rw [hd]; rfl
    rw [hll] at hch
    refine ⟨fun _ _ => by decide, fun hbad => ?_, fun hok => ?_⟩
    · have : badB p per.length o = true := hbad
      rw [this] at hch
      rw [hchk, hch]; exact aH rfl rfl
    · have hb2 : badB p per.length o = false := hok
      rw [hb2] at hch
      simp only [badB, Bool.or_eq_false_iff, decide_eq_false_iff_not] at hb2
      refine ⟨by decide, by decide, by omega, by omega, m - 1, by omega, k + 1, _, yU p o, by omega, by rw [w64 (by omega) (by omega)]; rfl, ?_, by rw [hchk]; exact hch, rfl⟩
      rw [List.length_set]; exact hll
  · have : k = pend.length := by omega
    subst this
    rw [List.drop_length] at hchk
    have hl : l.take per.length = l := List.take_of_length_le (by omega)
    simp only [hl, go_sem, reduceEqDiff, Nat.reduceLT, reduceAdd, reduceSub, reduceLeDiff, reduceReplicate, reduceToNat, bV.C]
    refine ⟨by unfold roomy; omega, ?_⟩
    rw [hchk]
    have : decide (chk [] l o = some vol) = decide (l = vol) := by simp [chk]
    rw [this]; exact aH rfl rfl
def fL.C : aE
  | [.agg [.sl false (.ints .i64 vol), .sl false (.ints .i64 per), .sl false (.pends pend)], .int .i64 at_] => some (false, pD (kP vol per pend) (.bool (mS vol per pend at_)))
  | _ => none
theorem fL.spec : bN Tryz.prog 152 fL.C := by
  refine bN.of (bQ (F := [(13, eA.C)]) (S := []) (by simpa using eA.spec) (by simp) fL.loops) fL.at fL.nm fL.bd ?_
  intro vs b S v news e hS
  unfold fL.C at e
  split at e
  rotate_left
  · cases e
  cases e
  rw [fL.eq]
  unfold fL.H
  simp (maxSteps := 4000000) only [go_sem, reduceEqDiff, Nat.reduceLT, reduceAdd, reduceSub, reduceLeDiff, reduceReplicate, reduceToNat, eA.C]
  exact ⟨fun _ => hS, aH rfl rfl⟩
def gO.C : aE
  | [.agg [.sl false (.ints .i64 vol), .sl false (.ints .i64 per), .sl false (.pends pend)], .int .i64 line] => some (false, pD (roomy vol.length) (.int .i64 (oX vol line)))
  | _ => none
theorem gO.spec : bN Tryz.prog 154 gO.C := by
  refine bN.of (bQ (F := []) (S := []) (by simp) (by simp) gO.loops) gO.at gO.nm gO.bd ?_
  intro vs b S v news e hS
  unfold gO.C at e
  split at e
  rotate_left
  · cases e
  cases e
  rw [gO.eq]
  unfold gO.H
  simp (maxSteps := 4000000) only [go_sem, reduceEqDiff, Nat.reduceLT, reduceAdd, reduceSub, reduceLeDiff, reduceReplicate, reduceToNat]
  rename_i vol per pend line
  unfold roomy at hS
  have e : IntKind.i64.wrap ((vol.length : Int).tdiv 8) = ((vol.length / 8 : Nat) : Int) := by rw [aMu]; exact w64 (by omega) (by omega)
  rw [e]
  refine ⟨fun _ => by decide, fun hb => ?_, fun hb => ?_⟩
  · unfold oX; rw [if_pos hb]; exact aH rfl rfl
  · have h2 := hb
    rw [Bool.or_eq_false_iff, decide_eq_false_iff_not, decide_eq_false_iff_not] at h2
    rw [w64 (by omega) (by omega)]
    unfold oX; rw [hb]; exact aH rfl rfl
def iJ.C : aE
  | [.agg [.sl false (.ints .i64 vol), .sl false (.ints .i64 per), .sl false (.pends pend)], .int .i64 at_, .int .i64 val] => some (false, pD (kP vol per pend ∧ roomy (pend.length + 1)) (putM vol per pend at_ val))
  | _ => none
theorem iJ.spec : bN Tryz.prog 148 iJ.C := by
  refine bN.of (bQ (F := [(152, fL.C), (153, bJ.C)]) (S := []) (by simpa using ⟨fL.spec, bJ.spec⟩) (by simp) iJ.loops) iJ.at iJ.nm iJ.bd ?_
  intro vs b S v news e hS
  unfold iJ.C at e
  split at e
  rotate_left
  · cases e
  cases e
  rw [iJ.eq]
  unfold iJ.H
  simp (maxSteps := 4000000) only [go_sem, reduceEqDiff, Nat.reduceLT, reduceAdd, reduceSub, reduceLeDiff, reduceReplicate, reduceToNat, fL.C, bJ.C]
  rename_i vol per pend at_ val
  obtain ⟨hS, hr⟩ := hS
  refine ⟨hS, fun hb => ?_, fun hb => ?_⟩
  · unfold putM; rw [hb]; exact aH rfl rfl
  · have hp : 0 ≤ at_ ∧ at_ < (vol.length : Int) := by
      simp only [mS, Bool.and_eq_true, decide_eq_true_eq] at hb
      exact hb.1
    have e : vol ++ List.take (vol.length - min vol.length vol.length) (List.drop (min vol.length vol.length) (List.replicate vol.length 0)) = vol := by simp
    rw [e]
    have hl : (pend ++ [(⟨at_, val, false⟩ : Pend)]).length = pend.length + 1 := by simp
    rw [hl]
    refine ⟨⟨by omega, by omega, hS.1⟩, hp, by omega, hr, rfl, ?_⟩
    unfold putM
    simp only [hb, if_true]
    refine aH ?_ rfl
    have t1 : (vol.set at_.toNat val).take vol.length = vol.set at_.toNat val := List.take_of_length_le (by simp)
    have t2 : (pend ++ [(⟨at_, val, false⟩ : Pend)]).take (pend.length + 1) = pend ++ [(⟨at_, val, false⟩ : Pend)] := List.take_of_length_le (by simp)
    simp only [go_sem, reduceEqDiff, Nat.reduceLT, reduceAdd, reduceSub, reduceLeDiff, reduceReplicate, reduceToNat, memV, t1, t2]
def fP.I : Con → Con := fun Y args h K => match args with
  | [.fn (.yield l) [] [], a0, a1] => fP.H ((ctx [] [] fP.loops).withY l Y) (.fn (.yield l) [] []) a0 a1 h K
  | _ => False
theorem fP.spec : sX Tryz.prog 159 fP.I := by
  refine sX.of (bQ (F := []) (S := []) (by simp) (by simp) fP.loops).toOkI fP.at fP.nm fP.bd ?_
  intro Yc l cap h K hC
  unfold fP.I at hC
  split at hC
  · rename_i e
    simp only [List.cons.injEq, AV.fn.injEq, Fn.yield.injEq, and_true, true_and] at e
    obtain ⟨rfl, rfl⟩ := e
    rw [fP.eq]; exact hC
  · exact hC.elim
def iU.K : Con := fun args h K => match args with
  | [a0, a1] => iU.H (ctx [] [] iU.loops) a0 a1 h K
  | _ => False
theorem iU.spec : cP Tryz.prog 156 iU.K := by
  refine cP.of (bQ (F := []) (S := []) (by simp) (by simp) iU.loops) iU.at iU.nm iU.bd ?_
  intro args h K hC
  unfold iU.K at hC
  split at hC
  · rw [iU.eq]; exact hC
  · exact hC.elim
def gD.C : aE
  | [.agg [.sl false (.ints .i64 vol), .sl false (.ints .i64 per), .sl false (.pends pend)], .int .i64 line] => some (false, pD (kP vol per pend) (aAq vol per pend line))
  | _ => none
theorem gD.spec : bN Tryz.prog 149 gD.C := by
  refine bN.of (aDU (F := [(152, fL.C), (154, gO.C), (155, bI.C)]) (S := [(156, iU.K)]) (Is := [(159, fP.I)]) (by simpa using ⟨fL.spec, gO.spec, bI.spec⟩) (by simpa using iU.spec) (by simpa using fP.spec) gD.loops) gD.at gD.nm gD.bd ?_
  intro vs b S v news e hS
  unfold gD.C at e
  split at e
  rotate_left
  · cases e
  cases e
  rw [gD.eq]
  unfold gD.H
  simp (maxSteps := 4000000) only [go_sem, reduceEqDiff, Nat.reduceLT, reduceAdd, reduceSub, reduceLeDiff, reduceReplicate, reduceToNat, fL.C, gO.C, bI.C, iU.K, iU.H, fP.I, fP.H, aA]
  rename_i vol per pend line
  refine ⟨hS.1, hS, fun hb => ?_, fun hb => ⟨hS.2.2, ?_⟩⟩
  · unfold aAq; rw [hb]; exact aH rfl rfl
  intro l r
  obtain ⟨s1, s2, s3⟩ := hS
  unfold roomy at s1 s2 s3
  unfold fP.L1
  refine ⟨fun m lv h' => ∃ k : Nat, k + m = pend.length ∧ lv = [.int .i64 k] ∧ h' = [.box (.agg [.sl false (.ints .i64 vol), .sl false (.ints .i64 per), .sl false (.pends pend)]),
      .box (.agg [.sl false (.ints .i64 []), .sl false (.ints .i64 []), .sl false (.pends [])]), .row .own 0 (.pends (gQ line (pend.take k) ++ pend.drop k)), .box (.sref false 2 0 0 pend.length),
      .box (.agg [.sl false (.ints .i64 vol), .sl false (.ints .i64 per), .sl false (.pends pend)]), .box (.int .i64 line), .lp .ready none r],
    ⟨pend.length, 0, by omega, rfl, rfl⟩, ?_⟩
  rintro m h' t9 ⟨k, hk, hlv, rfl⟩
  simp only [List.cons.injEq, and_true] at hlv
  subst hlv
  have hlen : (gQ line (pend.take k) ++ pend.drop k).length = pend.length := by simp [gQ]; omega
  simp only [go_sem, reduceEqDiff, Nat.reduceLT, reduceAdd, reduceSub, reduceLeDiff, reduceReplicate, reduceToNat, aAQ, hlen]
  refine ⟨fun hlt => ?_, fun hge => ?_⟩
  · have hkl : k < pend.length := by omega
    have hget : (gQ line (pend.take k) ++ pend.drop k).getD k ⟨0, 0, false⟩ = pend.getD k ⟨0, 0, false⟩ := by
      rw [List.getD_eq_getElem?_getD, List.getElem?_append_right (by simp [gQ]; omega)]
      have e : k - (gQ line (pend.take k)).length = 0 := by simp [gQ]; omega
      rw [e, List.getElem?_drop, Nat.add_zero, List.getD_eq_getElem?_getD]
    have hdrop : pend.drop k = pend.getD k ⟨0, 0, false⟩ :: pend.drop (k + 1) := by
      rw [List.getD_eq_getElem?_getD, List.getElem?_eq_getElem hkl, List.drop_eq_getElem_cons hkl]; rfl
    have hset : ∀ q : Pend, (gQ line (pend.take k) ++ pend.drop k).set k q = gQ line (pend.take k) ++ q :: pend.drop (k + 1) := by
      intro q
      rw [hdrop, List.set_append_right _ _ (by simp [gQ]; omega)]
      have e : k - (gQ line (pend.take k)).length = 0 := by simp [gQ]; omega
      rw [e]; rfl
    have hnx : gQ line (pend.take (k + 1)) = gQ line (pend.take k) ++ [if hX (pend.getD k ⟨0, 0, false⟩).at_ = line then { pend.getD k ⟨0, 0, false⟩ with fl := true } else pend.getD k ⟨0, 0, false⟩] := by
      rw [iH pend k ⟨0, 0, false⟩ hkl]
      simp [gQ]
    rw [aA]
    simp only [oF, hget, hset]
    refine ⟨by omega, by decide, fun hc => ?_, fun hc => ?_⟩
    · have hc : hX (pend.getD k ⟨0, 0, false⟩).at_ = line := by simpa [hX] using hc
      simp only [go_sem, reduceEqDiff, Nat.reduceLT, reduceAdd, reduceSub, reduceLeDiff, reduceReplicate, reduceToNat]
      refine ⟨⟨by omega, by omega⟩, hkl, m - 1, by omega, k + 1, by omega, by rw [w64 (by omega) (by omega)]; rfl, ?_⟩
      rw [hnx, if_pos hc, List.append_assoc]; rfl
    · have hc : ¬ hX (pend.getD k ⟨0, 0, false⟩).at_ = line := by simpa [hX] using hc
      simp only [go_sem, reduceEqDiff, Nat.reduceLT, reduceAdd, reduceSub, reduceLeDiff, reduceReplicate, reduceToNat]
      refine ⟨m - 1, by omega, k + 1, by omega, by rw [w64 (by omega) (by omega)]; rfl, ?_⟩
      rw [hnx, if_neg hc, List.append_assoc, hdrop]; rfl
  · have : k = pend.length := by omega
    subst this
    rw [List.take_length, List.drop_length, List.append_nil] at hlen
    have e : gQ line (pend.take pend.length) ++ pend.drop pend.length = gQ line pend := by rw [List.take_length, List.drop_length, List.append_nil]
    rw [e]
    unfold aAq
    simp only [hb, if_true]
    refine aH ?_ rfl
    have t1 : (gQ line pend).take pend.length = gQ line pend := List.take_of_length_le (by omega)
    simp only [go_sem, reduceEqDiff, Nat.reduceLT, reduceAdd, reduceSub, reduceLeDiff, reduceReplicate, reduceToNat, memV, t1]
def eO.C : aE
  | [.agg [.int .i64 a, .int .i64 v, .bool f]] => some (false, pD True (.bool f))
  | _ => none
theorem eO.spec : bN Tryz.prog 158 eO.C := by
  refine bN.of (bQ (F := []) (S := []) (by simp) (by simp) eO.loops) eO.at eO.nm eO.bd ?_
  intro vs b S v news e hS
  unfold eO.C at e
  split at e
  rotate_left
  · cases e
  cases e
  rw [eO.eq]
  unfold eO.H
  simp (maxSteps := 4000000) only [go_sem, reduceEqDiff, Nat.reduceLT, reduceAdd, reduceSub, reduceLeDiff, reduceReplicate, reduceToNat]
  exact aH rfl rfl
def fO.K : Con := fun args h K => match args with
  | [a0, a1] => fO.H (ctx [(34, aY.C), (158, eO.C)] [] fO.loops) a0 a1 h K
  | _ => False
theorem fO.spec : cP Tryz.prog 157 fO.K := by
  refine cP.of (bQ (F := [(34, aY.C), (158, eO.C)]) (S := []) (by simpa using ⟨aY.spec, eO.spec⟩) (by simp) fO.loops) fO.at fO.nm fO.bd ?_
  intro args h K hC
  unfold fO.K at hC
  split at hC
  · rw [fO.eq]; exact hC
  · exact hC.elim

def gE.C : aE
  | [.agg [.sl false (.ints .i64 vol), .sl false (.ints .i64 per), .sl false (.pends pend)]] => some (false, pD (kP vol per pend) (aDh fFl (nG vol per pend) vol per pend))
  | _ => none
theorem gE.spec : bN Tryz.prog 150 gE.C := by
  refine bN.of (bQ (F := [(13, eA.C)]) (S := [(157, fO.K)]) (by simpa using eA.spec) (by simpa using fO.spec) gE.loops) gE.at gE.nm gE.bd ?_
  intro vs b S v news e hS
  unfold gE.C at e
  split at e
  rotate_left
  · cases e
  cases e
  rw [gE.eq]
  unfold gE.H
  simp (maxSteps := 4000000) only [go_sem, reduceEqDiff, Nat.reduceLT, reduceAdd, reduceSub, reduceLeDiff, reduceReplicate, reduceToNat, eA.C, fO.K, fO.H, aY.C]
  rename_i vol per pend
  refine ⟨hS, fun hb => ?_, fun hb => ⟨hS.2.1, ?_⟩⟩
  · unfold aDh; rw [hb]; exact aH rfl rfl
  obtain ⟨s1, s2, s3⟩ := hS
  unfold roomy at s1 s2 s3
  have hrange := aHw hb
  rw [aA]
  unfold fO.L1
  refine ⟨fun m lv h' => ∃ k v : Nat, k + m = pend.length ∧ lv = [.int .i64 k] ∧ h' = [.box (.agg [.sl false (.ints .i64 vol), .sl false (.ints .i64 per), .sl false (.pends pend)]), .box (.agg [.sl false (.ints .i64 []), .sl false (.ints .i64 []), .sl false (.pends [])]), .box (.agg [.sl false (.ints .i64 vol), .sl false (.ints .i64 per), .sl false (.pends pend)]), .box (.agg [.sl false (.ints .i64 []), .sl false (.ints .i64 []), .sl false (.pends [])]), .row .own 0 (.ints .i64 (lG fFl (pend.take k) per)), .box (.agg [.sl false (.ints .i64 vol), .sref false 4 0 0 per.length, .sref false 6 v 0 (mC fFl (pend.take k)).length]), .row .own v (.pends (mC fFl (pend.take k)))],
    ⟨pend.length, 0, 0, by omega, rfl, rfl⟩, ?_⟩
  rintro m h' t17 ⟨k, v, hk, hlv, rfl⟩
  simp only [List.cons.injEq, and_true] at hlv
  subst hlv
  have hwl : (lG fFl (pend.take k) per).length = per.length := aAr _ _ _
  have hpl : (mC fFl (pend.take k)).length ≤ k := Nat.le_trans (List.length_filter_le _ _) (by simp; omega)
  simp only [go_sem, reduceEqDiff, Nat.reduceLT, reduceAdd, reduceSub, reduceLeDiff, reduceReplicate, reduceToNat, aAQ, hwl, eO.C]
  refine ⟨fun hlt => ?_, fun hge => ?_⟩
  · have hkl : k < pend.length := by omega
    have hr := hrange _ (lJ pend k ⟨0, 0, false⟩ hkl)
    have hW := aDg fFl (pend.getD k ⟨0, 0, false⟩) (pend.take k) per
    have hP := aIW fFl (pend.getD k ⟨0, 0, false⟩) (pend.take k)
    rw [← iH pend k ⟨0, 0, false⟩ hkl] at hW hP
    generalize pend.getD k ⟨0, 0, false⟩ = p at *
    try rw [aA]
    refine ⟨by omega, fun hc => ?_, fun hc => ?_⟩
    · have hc : fFl p = true := hc
      rw [hc] at hW hP
      simp only [go_sem, reduceEqDiff, Nat.reduceLT, reduceAdd, reduceSub, reduceLeDiff, reduceReplicate, reduceToNat]
      refine ⟨hr, by omega, m - 1, by omega, k + 1, v, by omega, by rw [w64 (by omega) (by omega)]; rfl, ?_⟩
      rw [hW, hP]
    · have hc : fFl p = false := hc
      rw [hc] at hW hP
      simp only [go_sem, reduceEqDiff, Nat.reduceLT, reduceAdd, reduceSub, reduceLeDiff, reduceReplicate, reduceToNat]
      refine ⟨by unfold roomy; simp; omega, m - 1, by omega, k + 1, v + 1, by omega, by rw [w64 (by omega) (by omega)]; rfl, ?_⟩
      rw [hW, hP]
  · have : k = pend.length := by omega
    subst this
    rw [List.take_length] at hwl hpl ⊢
    have t1 : (lG fFl pend per).take per.length = lG fFl pend per := List.take_of_length_le (by omega)
    have t2 : (mC fFl pend).take (mC fFl pend).length = mC fFl pend := List.take_length
    unfold aDh
    simp only [hb, if_true, go_sem, reduceEqDiff, Nat.reduceLT, reduceAdd, reduceSub, reduceLeDiff, reduceReplicate, reduceToNat]
    refine aH ?_ rfl
    simp only [go_sem, reduceEqDiff, Nat.reduceLT, reduceAdd, reduceSub, reduceLeDiff, reduceReplicate, reduceToNat, memV, t1, t2]

end Lam
namespace Lam
open Go Go.Proofs
def fF.C : aE
  | [.int .i64 n] => some (false, pD True (.bool (lt1 n)))
  | _ => none
theorem fF.spec : bN Tryz.prog 103 fF.C := by
  refine bN.of (bQ (F := []) (S := []) (by simp) (by simp) fF.loops) fF.at fF.nm fF.bd ?_
  intro vs b S v news e hS
  unfold fF.C at e
  split at e
  rotate_left
  · cases e
  cases e
  rw [fF.eq]
  unfold fF.H
  simp (maxSteps := 4000000) only [go_sem, reduceEqDiff, Nat.reduceLT, reduceAdd, reduceSub, reduceLeDiff, reduceReplicate, reduceToNat]
  exact aH rfl rfl
def fA.C : aE
  | [.int .i64 n] => some (false, pD True (.bool (rO n)))
  | _ => none
theorem fA.spec : bN Tryz.prog 105 fA.C := by
  refine bN.of (bQ (F := []) (S := []) (by simp) (by simp) fA.loops) fA.at fA.nm fA.bd ?_
  intro vs b S v news e hS
  unfold fA.C at e
  split at e
  rotate_left
  · cases e
  cases e
  rw [fA.eq]
  unfold fA.H
  simp (maxSteps := 4000000) only [go_sem, reduceEqDiff, Nat.reduceLT, reduceAdd, reduceSub, reduceLeDiff, reduceReplicate, reduceToNat]
  exact aH rfl rfl
def fG.C : aE
  | [.int .i64 n] => some (false, pD True (.bool (vE n)))
  | _ => none
theorem fG.spec : bN Tryz.prog 107 fG.C := by
  refine bN.of (bQ (F := [(105, fA.C)]) (S := []) (by simpa using fA.spec) (by simp) fG.loops) fG.at fG.nm fG.bd ?_
  intro vs b S v news e hS
  unfold fG.C at e
  split at e
  rotate_left
  · cases e
  cases e
  rw [fG.eq]
  unfold fG.H
  simp (maxSteps := 4000000) only [go_sem, reduceEqDiff, Nat.reduceLT, reduceAdd, reduceSub, reduceLeDiff, reduceReplicate, reduceToNat, fA.C]
  exact aH rfl rfl
theorem aGv (c : Ctx) (hd : c.drawn = false) (f : FuncId) (p : Int → Bool) (hf : ∀ n, c.envF f [.int .i64 n] = some (false, pD True (.bool (p n)))) (x : Bool) (l : List Int) (hr : roomy l.length) :
    bO.H c (.sl x (.ints .i64 l)) (.fn (.func f) [] []) [] (Post false (.int .i64 (idxI p l)) []) := by
  unfold roomy at hr
  unfold bO.H
  simp only [go_sem, reduceEqDiff, Nat.reduceLT, reduceAdd, reduceSub, reduceLeDiff, reduceReplicate, reduceToNat]
  rw [aA]
  unfold bO.L1
  refine lF (σ := Nat) (fun k => .int .i64 k) (fun k => []) (fun k => l.length - k) (fun k => k ≤ l.length ∧ ∀ y ∈ l.take k, p y = false) 0 rfl rfl ⟨Nat.zero_le _, by simp⟩ ?_
  rintro I back k ⟨hk, hall⟩
  simp only [hf, hd, go_sem, reduceEqDiff, Nat.reduceLT, reduceAdd, reduceSub, reduceLeDiff, reduceReplicate, reduceToNat]
  refine ⟨fun hlt => ⟨by omega, fun h => ?_, fun h => ?_⟩, fun hge => ?_⟩
  · have hkl : k < l.length := by omega
    have h1 : l.any p = true := List.any_eq_true.2 ⟨_, lJ l k 0 hkl, h⟩
    have h2 : l.findIdx p = k := by
      rw [List.findIdx_eq hkl]
      refine ⟨by rw [List.getD_eq_getElem?_getD, List.getElem?_eq_getElem hkl] at h; exact h, fun j hj => ?_⟩
      have := hall l[j] (List.mem_take_iff_getElem.2 ⟨j, by omega, rfl⟩)
      simpa using this
    unfold idxI; rw [if_pos h1, h2]
    exact aH rfl rfl
  · refine back (k + 1) (by omega) (by rw [eS (by omega)]) rfl ⟨by omega, fun y hy => ?_⟩
    rw [iH l k 0 (by omega), List.mem_append, List.mem_singleton] at hy
    rcases hy with hy | rfl
    · exact hall y hy
    · exact h
  · obtain rfl : k = l.length := by omega
    rw [List.take_length] at hall
    have h1 : ¬ l.any p = true := by
      rw [List.any_eq_true]; rintro ⟨y, hy, hp⟩; rw [hall y hy] at hp; cases hp
    unfold idxI; rw [if_neg h1]
    exact aH rfl rfl
def aDq (f : Nat) : Option (Int → Bool) :=
  if f = 103 then some lt1 else
  if f = 107 then some vE else
  none
@[go_sem] theorem aYg : aDq 103 = some lt1 := rfl
@[go_sem] theorem aYh : aDq 107 = some vE := rfl
def bO.C : aE
  | [.sl _ (.ints .i64 l), .fn (.func f) [] []] => match aDq f with
    | some p => some (false, pD (roomy l.length) (.int .i64 (idxI p l)))
    | none => none
  | _ => none
theorem bO.spec : bN Tryz.prog 102 bO.C := by
  refine bN.of (bQ (F := [(103, fF.C), (107, fG.C)]) (S := []) (by simpa using ⟨fF.spec, fG.spec⟩) (by simp) bO.loops) bO.at bO.nm bO.bd ?_
  intro vs b S v news e hS
  unfold bO.C at e
  split at e
  rotate_left
  · cases e
  rw [bO.eq]
  rename_i x l f
  split at e
  rotate_left
  · cases e
  rename_i p hp
  cases e
  refine aGv _ rfl f p (fun n => ?_) x l hS
  unfold aDq at hp
  simp only [aLN]
  repeat' split at hp
  all_goals first | (rename_i h; subst h; cases hp; rfl) | cases hp
def bW.C : aE
  | [.sl _ (.ints .i64 l), .fn (.func f) [] []] => match aDq f with
    | some p => some (false, pD (roomy l.length) (.bool (l.any p)))
    | none => none
  | _ => none
theorem bW.spec : bN Tryz.prog 106 bW.C := by
  refine bN.of (bQ (F := [(102, bO.C)]) (S := []) (by simpa using bO.spec) (by simp) bW.loops) bW.at bW.nm bW.bd ?_
  intro vs b S v news e hS
  unfold bW.C at e
  split at e
  rotate_left
  · cases e
  rw [bW.eq]
  rename_i x l f
  split at e
  rotate_left
  · cases e
  rename_i p hp
  cases e
  unfold bW.H
  simp only [bO.C, hp, go_sem, reduceEqDiff, Nat.reduceLT, reduceAdd, reduceSub, reduceLeDiff, reduceReplicate, reduceToNat]
  refine ⟨hS, ?_⟩
  have : decide (0 ≤ idxI p l) = l.any p := by
    unfold idxI
    cases h : l.any p
    · rfl
    · rw [if_pos rfl]; exact decide_eq_true (by omega)
  rw [this]; exact aH rfl rfl
end Lam
namespace Lam
open Go Go.Proofs
theorem aNV {l : List Int} {v : Int} {k : Nat} (hk : k < l.length) (h : v = l.getD k 0) (hall : ∀ y ∈ l.take k, (decide (v = y)) = false) : idxI (fun y => decide (v = y)) l = k := by
  have h1 : l.any (fun y => decide (v = y)) = true := List.any_eq_true.2 ⟨_, lJ l k 0 hk, decide_eq_true h⟩
  have h2 : l.findIdx (fun y => decide (v = y)) = k := by
    rw [List.findIdx_eq hk]
    refine ⟨by rw [List.getD_eq_getElem?_getD, List.getElem?_eq_getElem hk] at h; exact decide_eq_true h, fun j hj => ?_⟩
    exact hall l[j] (List.mem_take_iff_getElem.2 ⟨j, by omega, rfl⟩)
  unfold idxI; rw [if_pos h1, h2]
theorem aGw {l : List Int} {v : Int} (h : v ∉ l) : idxI (fun y => decide (v = y)) l = -1 := by
  unfold idxI
  rw [if_neg]
  rw [List.any_eq_true]
  rintro ⟨y, hy, hp⟩
  have := of_decide_eq_true hp
  subst this; exact h hy
def cB.C : aE
  | [.sl _ (.ints .i64 l), .int .i64 v] => some (false, pD (roomy l.length) (.int .i64 (idxI (fun y => decide (v = y)) l)))
  | _ => none
theorem cB.spec : bN Tryz.prog 104 cB.C := by
  refine bN.of (bQ (F := []) (S := []) (by simp) (by simp) cB.loops) cB.at cB.nm cB.bd ?_
  intro vs b S v news e hS
  unfold cB.C at e
  split at e
  rotate_left
  · cases e
  cases e
  rw [cB.eq]
  unfold cB.H
  simp (maxSteps := 4000000) only [go_sem, reduceEqDiff, Nat.reduceLT, reduceAdd, reduceSub, reduceLeDiff, reduceReplicate, reduceToNat]
  rename_i _ l v
  have hr := hS
  unfold roomy at hr
  rw [aA]
  unfold cB.L1
  refine lF (σ := Nat) (fun k => .int .i64 k) (fun k => []) (fun k => l.length - k) (fun k => k ≤ l.length ∧ ∀ y ∈ l.take k, decide (v = y) = false) 0 rfl rfl ⟨Nat.zero_le _, by simp⟩ ?_
  rintro I back k ⟨hk, hall⟩
  simp only [go_sem, reduceEqDiff, Nat.reduceLT, reduceAdd, reduceSub, reduceLeDiff, reduceReplicate, reduceToNat]
  refine ⟨fun hlt => ⟨by omega, fun h => ?_, fun h => ?_⟩, fun hge => ?_⟩
  · rw [← aNV (by omega) h hall]
    exact aH rfl rfl
  · refine back (k + 1) (by omega) (by rw [eS (by omega)]) rfl ⟨by omega, fun y hy => ?_⟩
    rw [iH l k 0 (by omega), List.mem_append, List.mem_singleton] at hy
    rcases hy with hy | rfl
    · exact hall y hy
    · exact decide_eq_false h
  · obtain rfl : k = l.length := by omega
    rw [List.take_length] at hall
    rw [aGw (fun hm => by have := hall v hm; simp at this)]
    exact aH rfl rfl
def cA.C : aE
  | [.sl _ (.ints .i64 l), .int .i64 v] => some (false, pD (roomy l.length) (.bool (decide (v ∈ l))))
  | _ => none
theorem cA.spec : bN Tryz.prog 83 cA.C := by
  refine bN.of (bQ (F := [(104, cB.C)]) (S := []) (by simpa using cB.spec) (by simp) cA.loops) cA.at cA.nm cA.bd ?_
  intro vs b S v news e hS
  unfold cA.C at e
  split at e
  rotate_left
  · cases e
  cases e
  rw [cA.eq]
  unfold cA.H
  simp (maxSteps := 4000000) only [go_sem, reduceEqDiff, Nat.reduceLT, reduceAdd, reduceSub, reduceLeDiff, reduceReplicate, reduceToNat, cB.C]
  rename_i _ l v
  refine ⟨hS, ?_⟩
  have : decide (0 ≤ idxI (fun y => decide (v = y)) l) = decide (v ∈ l) := by
    by_cases h : v ∈ l
    · rw [decide_eq_true h]
      unfold idxI
      rw [if_pos (List.any_eq_true.2 ⟨v, h, decide_eq_true rfl⟩)]
      exact decide_eq_true (by omega)
    · rw [aGw h, decide_eq_false h]; rfl
  rw [this]
  exact aH rfl rfl
end Lam
namespace Lam
open Go Go.Proofs
def iP.loops : Nat → bU
 | 4 => ⟨[4, 10], [false, false], [3, 8, 9], [], [], []⟩
 | _ => ⟨[], [], [], [], [], []⟩
def iP.L1 (c : Ctx) (J1 : AV → List AObj → Prop) (K : AOut → List AObj → Prop) (lv : List AV) (h0 : List AObj) (n0 : Nat) (c3 : AV) (c8 : AV) (c9 : AV) : Prop :=
 ∃ I : Nat → List AV → List AObj → Prop, (∃ n, I n lv h0) ∧ ∀ n h, ∀ t4, ∀ t10, I n [t4, t10] h →
 runD (binD aB .lss t10 c9) h fun t11 h =>
 bE t11
 (runD (aG aK h c8 t10) h fun t12 h =>
 runD (fitD aB (aD h t12)) h fun t13 h =>
 aP false c (.fn (.func 112) [] []) [c3, t4, t13] h (fun t16 h =>
 runD (binD aB .add t10 (.int .i64 1)) h fun t17 h =>
 (∃ m, m < n ∧ I m (AV.norms n0 h [t16, t17]) (cJ n0 h)) ∧ AV.norms n0 h [c3, c8, c9] = [c3, c8, c9])
 (fun v h => K (.pan v) h))
 (J1 t4 h)
def iP.H (c : Ctx) (t0 : AV) (h : List AObj) (K : AOut → List AObj → Prop) : Prop :=
 aP false c (.fn (.func 111) [] []) [] h (fun t7 h =>
 cS jT h fun t3 h =>
 runH (aR jT h t3 t7) h fun _ h =>
 runD (lenD aK h t0) h fun t9 h =>
 aL (fun (J1 : AV → List AObj → Prop) =>
 dM [false, false] [(.int .u32 4294967295), (.int .i64 0)] h fun lv h => iP.L1 c J1 K (AV.norms h.length h lv) (cJ h.length h) h.length (AV.norm h.length h t3) (AV.norm h.length h t0) (AV.norm h.length h t9))
 (fun t4 h => runD (unD .xor t4) h fun t19 h =>
 runD (jO h kG aB t19) h fun t20 h =>
 K (.ret t20) h))
 (fun v h => K (.pan v) h)
def eD.loops : Nat → bU
 | 2 => ⟨[3], [false], [0], [], [], []⟩
 | 6 => ⟨[2, 8], [false, false], [0, 1, 3], [], [], []⟩
 | _ => ⟨[], [], [], [], [], []⟩
def eD.L2 (c : Ctx) (J3 : AV → AV → AV → AV → List AObj → Prop) (K : AOut → List AObj → Prop) (lv : List AV) (h0 : List AObj) (n0 : Nat) (c0 : AV) (c1 : AV) (c3 : AV) : Prop :=
 ∃ I : Nat → List AV → List AObj → Prop, (∃ n, I n lv h0) ∧ ∀ n h, ∀ t2, ∀ t8, I n [t2, t8] h →
 runD (binD aB .lss t8 (.int .i64 8)) h fun t9 h =>
 bE t9
 (runD (binD kG .shr t2 (.int .u64 1)) h fun t11 h =>
 runD (binD kG .and t2 (.int .u32 1)) h fun t13 h =>
 runD (unD .neg t13) h fun t14 h =>
 runD (binD kG .and (.int .u32 3988292384) t14) h fun t15 h =>
 runD (binD kG .xor t11 t15) h fun t16 h =>
 runD (binD aB .add t8 (.int .i64 1)) h fun t17 h =>
 (∃ m, m < n ∧ I m (AV.norms n0 h [t16, t17]) (cJ n0 h)) ∧ AV.norms n0 h [c0, c1, c3] = [c0, c1, c3])
 (J3 c0 c1 t2 c3 h)
def eD.L1 (c : Ctx) (J1 : AV → List AObj → Prop) (K : AOut → List AObj → Prop) (lv : List AV) (h0 : List AObj) (n0 : Nat) (c0 : AV) : Prop :=
 ∃ I : Nat → List AV → List AObj → Prop, (∃ n, I n lv h0) ∧ ∀ n h, ∀ t3, I n [t3] h →
 runD (binD aB .lss t3 (.int .i64 256)) h fun t4 h =>
 bE t4
 (aL (fun (J2 : AV → AV → List AObj → Prop) =>
 runD (jO h aB kG t3) h fun t7 h =>
 aL (fun (J3 : AV → AV → AV → AV → List AObj → Prop) =>
 dM [false, false] [t7, (.int .i64 0)] h fun lv h => eD.L2 c J3 K (AV.norms h.length h lv) (cJ h.length h) h.length (AV.norm h.length h c0) (AV.norm h.length h t3) (AV.norm h.length h t3))
 (fun t0 t1 t2 t3 h => runD (aG jT h t0 t1) h fun t20 h =>
 runH (aR kG h t20 t2) h fun _ h =>
 J2 t0 t3 h))
 (fun t0 t3 h => runD (binD aB .add t3 (.int .i64 1)) h fun t21 h =>
 (∃ m, m < n ∧ I m (AV.norms n0 h [t21]) (cJ n0 h)) ∧ AV.norms n0 h [t0] = [c0]))
 (J1 c0 h)
def eD.H (c : Ctx) (h : List AObj) (K : AOut → List AObj → Prop) : Prop :=
 cS jT h fun t0 h =>
 aL (fun (J1 : AV → List AObj → Prop) =>
 dM [false] [(.int .i64 0)] h fun lv h => eD.L1 c J1 K (AV.norms h.length h lv) (cJ h.length h) h.length (AV.norm h.length h t0))
 (fun t0 h => runD (fitD jT (aD h t0)) h fun t22 h =>
 runH (aR jT h t0 t22) h fun _ h =>
 dA (fitD jT (aD h t0)) fun r0 => K (.ret r0) h)
def gI.loops : Nat → bU
 | 2 => ⟨[1, 7], [false, false], [0, 2], [], [], []⟩
 | _ => ⟨[], [], [], [], [], []⟩
def gI.L1 (c : Ctx) (J1 : AV → List AObj → Prop) (K : AOut → List AObj → Prop) (lv : List AV) (h0 : List AObj) (n0 : Nat) (c0 : AV) (c2 : AV) : Prop :=
 ∃ I : Nat → List AV → List AObj → Prop, (∃ n, I n lv h0) ∧ ∀ n h, ∀ t1, ∀ t7, I n [t1, t7] h →
 runD (binD aB .geq t7 (.int .i64 0)) h fun t9 h =>
 bE t9
 (runD (jO h aB lK c2) h fun t15 h =>
 runD (binD lK .shr t15 t7) h fun t17 h =>
 runD (jO h lK nH t17) h fun t18 h =>
 aP false c (.fn (.func 122) [] []) [c0, t1, t18] h (fun t19 h =>
 runD (binD aB .sub t7 (.int .i64 8)) h fun t11 h =>
 (∃ m, m < n ∧ I m (AV.norms n0 h [t19, t11]) (cJ n0 h)) ∧ AV.norms n0 h [c0, c2] = [c0, c2])
 (fun v h => K (.pan v) h))
 (J1 t1 h)
def gI.H (c : Ctx) (t0 : AV) (t1 : AV) (t2 : AV) (h : List AObj) (K : AOut → List AObj → Prop) : Prop :=
 aL (fun (J1 : AV → List AObj → Prop) =>
 dM [false, false] [t1, (.int .i64 56)] h fun lv h => gI.L1 c J1 K (AV.norms h.length h lv) (cJ h.length h) h.length (AV.norm h.length h t0) (AV.norm h.length h t2))
 (fun t1 h => K (.ret t1) h)
def gV.loops : Nat → bU
 | _ => ⟨[], [], [], [], [], []⟩
def gV.H (c : Ctx) (t0 : AV) (t1 : AV) (t2 : AV) (h : List AObj) (K : AOut → List AObj → Prop) : Prop :=
 runD (binD kG .shr t1 (.int .u64 8)) h fun t8 h =>
 runD (jO h kG nH t1) h fun t11 h =>
 runD (binD nH .xor t11 t2) h fun t13 h =>
 runD (bL t0) h fun t14 h =>
 runD (aG jT h t14 t13) h fun t15 h =>
 runD (fitD kG (aD h t15)) h fun t16 h =>
 runD (binD kG .xor t8 t16) h fun t17 h =>
 K (.ret t17) h
theorem iP.eq (F : List (FuncId × aE)) (S : List (FuncId × Con)) (t0 : AV) (h : List AObj) (K : AOut → List AObj → Prop) : funW (ctx F S iP.loops) Tryz.f93 [t0] h K = iP.H (ctx F S iP.loops) t0 h K := by kernel_rfl
theorem eD.eq (F : List (FuncId × aE)) (S : List (FuncId × Con)) (h : List AObj) (K : AOut → List AObj → Prop) : funW (ctx F S eD.loops) Tryz.f111 [] h K = eD.H (ctx F S eD.loops)  h K := by kernel_rfl
theorem gI.eq (F : List (FuncId × aE)) (S : List (FuncId × Con)) (t0 t1 t2 : AV) (h : List AObj) (K : AOut → List AObj → Prop) : funW (ctx F S gI.loops) Tryz.f112 [t0, t1, t2] h K = gI.H (ctx F S gI.loops) t0 t1 t2 h K := by kernel_rfl
theorem gV.eq (F : List (FuncId × aE)) (S : List (FuncId × Con)) (t0 t1 t2 : AV) (h : List AObj) (K : AOut → List AObj → Prop) : funW (ctx F S gV.loops) Tryz.f122 [t0, t1, t2] h K = gV.H (ctx F S gV.loops) t0 t1 t2 h K := by kernel_rfl
theorem iP.at : Tryz.prog.funcs[93]? = some Tryz.f93 := by kernel_rfl
theorem iP.nm : (Tryz.f93.name == "runtime.NumGoroutine") = false := by kernel_rfl
theorem iP.bd : Tryz.f93.body.isNone = false := by kernel_rfl
theorem eD.at : Tryz.prog.funcs[111]? = some Tryz.f111 := by kernel_rfl
theorem eD.nm : (Tryz.f111.name == "runtime.NumGoroutine") = false := by kernel_rfl
theorem eD.bd : Tryz.f111.body.isNone = false := by kernel_rfl
theorem gI.at : Tryz.prog.funcs[112]? = some Tryz.f112 := by kernel_rfl
theorem gI.nm : (Tryz.f112.name == "runtime.NumGoroutine") = false := by kernel_rfl
theorem gI.bd : Tryz.f112.body.isNone = false := by kernel_rfl
theorem gV.at : Tryz.prog.funcs[122]? = some Tryz.f122 := by kernel_rfl
theorem gV.nm : (Tryz.f122.name == "runtime.NumGoroutine") = false := by kernel_rfl
theorem gV.bd : Tryz.f122.body.isNone = false := by kernel_rfl
end Lam
namespace Lam
open Go Go.Proofs
theorem aGx (c t3 : Int) (xs : List Int) (h : List AObj) (J : AV → AV → AV → AV → List AObj → Prop) (K : AOut → List AObj → Prop) (hh : h = [AObj.row .arr 0 (.ints .u32 xs)])
    (hJ : J (.ptr 0 []) (.int .i64 t3) (.int .u32 (bitN 8 c)) (.int .i64 t3) h) :
    eD.L2 (ctx [] [] eD.loops) J K [.int .u32 c, .int .i64 0] h 1 (.ptr 0 []) (.int .i64 t3) (.int .i64 t3) := by
  unfold eD.L2
  refine ⟨fun n lv h' => ∃ k : Nat, k + n = 8 ∧ lv = [.int .u32 (bitN k c), .int .i64 k] ∧ h' = h, ⟨8, 0, rfl, rfl, rfl⟩, ?_⟩
  rintro n h' t2 t8 ⟨k, hk, hlv, rfl⟩
  simp only [List.cons.injEq, and_true] at hlv
  obtain ⟨rfl, rfl⟩ := hlv
  subst hh
  simp only [go_sem, Nat.reduceLT]
  refine ⟨fun hlt => ⟨by decide, n - 1, by omega, k + 1, by omega, ?_⟩, fun hge => ?_⟩
  · rw [w64 (by omega) (by omega)]
    rfl
  · have : k = 8 := by omega
    subst this; exact hJ

theorem aGy (J : AV → List AObj → Prop) (K : AOut → List AObj → Prop) (hJ : J (.ptr 0 []) [AObj.row .arr 0 (.ints .u32 tabL)]) :
    eD.L1 (ctx [] [] eD.loops) J K [.int .i64 0] [AObj.row .arr 0 (.ints .u32 (List.replicate 256 0))] 1 (.ptr 0 []) := by
  unfold eD.L1
  refine ⟨fun n lv h' => ∃ k : Nat, k + n = 256 ∧ lv = [.int .i64 k] ∧ h' = [AObj.row .arr 0 (.ints .u32 ((List.range k).map tabE ++ List.replicate n 0))], ⟨256, 0, rfl, rfl, rfl⟩, ?_⟩
  rintro n h' t3 ⟨k, hk, hlv, rfl⟩
  simp only [List.cons.injEq, and_true] at hlv
  subst hlv
  simp only [go_sem, Nat.reduceLT]
  refine ⟨fun hlt => ?_, fun hge => ?_⟩
  · simp only [aA]
    apply aGx _ _ _ _ _ _ rfl
    have hlen : ((List.range k).map tabE ++ List.replicate n 0).length = 256 := by simp; omega
    simp only [go_sem, Nat.reduceLT, hlen, Int.toNat_natCast]
    refine ⟨by omega, by omega, n - 1, by omega, k + 1, by omega, ?_, ?_⟩
    · rw [w64 (by omega) (by omega)]; rfl
    · obtain ⟨m, rfl⟩ : ∃ m, n = m + 1 := ⟨n - 1, by omega⟩
      simp [List.range_succ, List.replicate_succ, tabE]
  · have hn : n = 0 := by omega
    have hk : k = 256 := by omega
    subst hn hk
    simpa [tabL] using hJ

theorem aGz : eD.H (ctx [] [] eD.loops) [] (Post false (.arr (.ints .u32 tabL)) []) := by
  unfold eD.H
  simp only [go_sem, Nat.reduceLT]
  simp only [aA]
  apply aGy
  have : tabL.length = 256 := by simp [tabL]
  simp only [go_sem, this]
  exact aH rfl rfl

def eD.C : aE
  | [] => some (false, pD True (.arr (.ints .u32 tabL)))
  | _ => none
theorem eD.spec : bN Tryz.prog 111 eD.C := by
  refine bN.of (bQ (F := []) (S := []) (by simp) (by simp) eD.loops) eD.at eD.nm eD.bd ?_
  intro vs b S v news e hS
  unfold eD.C at e
  split at e
  rotate_left
  · cases e
  rw [eD.eq]
  cases e
  exact aGz
def gV.K : Con := fun args h K => match args with
  | [a0, a1, a2] => gV.H (ctx [] [] gV.loops) a0 a1 a2 h K
  | _ => False
theorem gV.spec : cP Tryz.prog 122 gV.K := by
  refine cP.of (bQ (F := []) (S := []) (by simp) (by simp) gV.loops) gV.at gV.nm gV.bd ?_
  intro args h K hC
  unfold gV.K at hC
  split at hC
  · rw [gV.eq]; exact hC
  · exact hC.elim
theorem aHD (t : List Int) (ht : t.length = 256) (c b : Int) (h : List AObj) (K : AOut → List AObj → Prop) (id : Nat) (hid : h[id]? = some (.row .arr 0 (.ints .u32 t))) (hK : K (.ret (.int .u32 (aMy t c b))) h) :
    gV.K [.ptr id [], .int .u32 c, .int .u8 b] h K := by
  unfold gV.K
  simp only
  unfold gV.H
  simp only [go_sem, hid, ht]
  have hr : 0 ≤ xorI .u8 (IntKind.u8.wrap c) b ∧ xorI .u8 (IntKind.u8.wrap c) b < 256 := aGk _
  exact ⟨by decide, hr, (Int.toNat_lt hr.1).2 hr.2, hK⟩

def gI.K : Con := fun args h K => match args with
  | [a0, a1, a2] => gI.H (ctx [] [(122, gV.K)] gI.loops) a0 a1 a2 h K
  | _ => False
theorem gI.spec : cP Tryz.prog 112 gI.K := by
  refine cP.of (bQ (F := []) (S := [(122, gV.K)]) (by simp) (by simpa using gV.spec) gI.loops) gI.at gI.nm gI.bd ?_
  intro args h K hC
  unfold gI.K at hC
  split at hC
  · rw [gI.eq]; exact hC
  · exact hC.elim
theorem aHE (t : List Int) (ht : t.length = 256) (c w : Int) (h : List AObj) (K : AOut → List AObj → Prop) (hh : h = [.row .arr 0 (.ints .u32 t)]) (hK : K (.ret (.int .u32 (aJi t c w))) h) :
    gI.K [.ptr 0 [], .int .u32 c, .int .i64 w] h K := by
  unfold gI.K
  simp only
  unfold gI.H
  subst hh
  simp only [aA, go_sem, Nat.reduceLT]
  unfold gI.L1
  refine ⟨fun n lv h' => ∃ k : Nat, k + n = 8 ∧ lv = [.int .u32 (aFt t w k c), .int .i64 (56 - 8 * k)] ∧ h' = [.row .arr 0 (.ints .u32 t)], ⟨8, 0, rfl, rfl, rfl⟩, ?_⟩
  rintro n h' t1 t7 ⟨k, hk, hlv, rfl⟩
  simp only [List.cons.injEq, and_true] at hlv
  obtain ⟨rfl, rfl⟩ := hlv
  simp only [go_sem, Nat.reduceLT, reduceEqDiff]
  refine ⟨fun hlt => ?_, fun hge => ?_⟩
  · refine ⟨hlt, ?_⟩
    apply aHD t ht _ _ _ _ _ rfl
    simp only [go_sem, Nat.reduceLT]
    refine ⟨n - 1, by omega, k + 1, by omega, ?_⟩
    rw [w64 (by omega) (by omega)]
    simp only [aFt]
    congr 3
    omega
  · have : k = 8 := by omega
    subst this; exact hK

def iP.C : aE
  | [.sl _ (.ints .i64 l)] => some (false, pD (roomy l.length) (.int .i64 (aBd l)))
  | _ => none
theorem iP.spec : bN Tryz.prog 93 iP.C := by
  refine bN.of (bQ (F := [(111, eD.C)]) (S := [(112, gI.K)]) (by simpa using eD.spec) (by simpa using gI.spec) iP.loops) iP.at iP.nm iP.bd ?_
  intro vs b S v news e hS
  unfold iP.C at e
  split at e
  rotate_left
  · cases e
  rw [iP.eq]
  rename_i x l
  cases e
  unfold roomy at hS
  unfold iP.H
  have htl : tabL.length = 256 := aLI
  simp only [go_sem, reduceEqDiff, Nat.reduceLT, eD.C, htl, List.length_replicate, aA]
  unfold iP.L1
  refine ⟨fun n lv h' => ∃ k : Nat, k + n = l.length ∧ lv = [.int .u32 ((l.take k).foldl (aJi tabL) 4294967295), .int .i64 k] ∧ h' = [.row .arr 0 (.ints .u32 tabL)], ⟨l.length, 0, by omega, rfl, rfl⟩, ?_⟩
  rintro n h' t4 t10 ⟨k, hk, hlv, rfl⟩
  simp only [List.cons.injEq, and_true] at hlv
  obtain ⟨rfl, rfl⟩ := hlv
  simp only [go_sem, Nat.reduceLT, reduceEqDiff]
  refine ⟨fun hlt => ?_, fun hge => ?_⟩
  · refine ⟨by omega, ?_⟩
    apply aHE tabL htl _ _ _ _ rfl
    simp only [go_sem, Nat.reduceLT]
    refine ⟨n - 1, by omega, k + 1, by omega, ?_⟩
    rw [w64 (by omega) (by omega)]
    have hkl : k < l.length := by omega
    have : l.take (k + 1) = l.take k ++ [l.getD k 0] := by
      rw [List.take_add_one, List.getElem?_eq_getElem hkl, List.getD_eq_getElem?_getD, List.getElem?_eq_getElem hkl]; rfl
    rw [this, List.foldl_append]
    rfl
  · have : k = l.length := by omega
    subst this
    rw [List.take_length]
    exact aH rfl rfl
end Lam
namespace Lam
open Go Go.Proofs
def gU.C : aE
  | [.sl _ (.ints .i64 l)] => some (false, pD (roomy l.length) (newM l))
  | _ => none
theorem gU.spec : bN Tryz.prog 28 gU.C := by
  refine bN.of (bQ (F := [(33, fK.C), (34, aY.C)]) (S := []) (by simpa using ⟨fK.spec, aY.spec⟩) (by simp) gU.loops) gU.at gU.nm gU.bd ?_
  intro vs b S v news e hS
  unfold gU.C at e
  split at e
  rotate_left
  · cases e
  cases e
  rw [gU.eq]
  unfold gU.H
  simp (maxSteps := 4000000) only [go_sem, reduceEqDiff, Nat.reduceLT, reduceAdd, reduceSub, reduceLeDiff, reduceReplicate, reduceToNat, fK.C, aY.C]
  rename_i l
  unfold roomy at hS
  refine ⟨fun hb => ?_, fun hb => ?_⟩
  · unfold newM; rw [hb]; exact aH rfl rfl
  · refine ⟨hS, hS, ?_⟩
    unfold newM; simp only [hb, if_true]
    refine aH ?_ rfl
    simp only [go_sem, reduceEqDiff, Nat.reduceLT, reduceAdd, reduceSub, reduceLeDiff, reduceReplicate, reduceToNat, memV, List.take_length]
end Lam
