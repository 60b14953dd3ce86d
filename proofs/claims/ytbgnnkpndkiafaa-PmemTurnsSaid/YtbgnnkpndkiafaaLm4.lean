/- What functions of the program come to, each proved from its code. -/
import Derived.Test.YtbgnnkpndkiafaaLm3
import Derived.Attr
import Derived.KernelRfl
import Derived.Test.YtbgnnkpndkiafaaProg
namespace Lam
open Go
set_option linter.unusedVariables false
set_option linter.unnecessarySimpa false
set_option linter.unusedSimpArgs false
section
variable {σ : Type}
abbrev LB := Nat → List AV → List AObj → Prop
theorem loop0 {B : LB → Nat → List AObj → Prop} {lv : List AV} {h0 : List AObj} (H : σ → List AObj) (M : σ → Nat) (Q : σ → Prop) (s0 : σ) (hv : lv = []) (hh : h0 = H s0) (q0 : Q s0)
    (step : ∀ (I : LB), (∀ {n : Nat} {lv : List AV} {h : List AObj} (s : σ), M s < n → lv = [] → h = H s → Q s → ∃ m, m < n ∧ I m lv h) → ∀ s, Q s → B I (M s) (H s)) : ∃ I : LB, (∃ n, I n lv h0) ∧ ∀ n h, I n [] h → B I n h := by
  refine ⟨fun m lv h => ∃ s, m = M s ∧ lv = [] ∧ h = H s ∧ Q s, ⟨_, s0, rfl, hv, hh, q0⟩, ?_⟩
  rintro n h ⟨s, rfl, e, rfl, q⟩
  cases e
  exact step _ (fun s hm hv hh q => ⟨_, hm, s, rfl, hv, hh, q⟩) s q
theorem loop1 {B : LB → Nat → List AObj → AV → Prop} {lv : List AV} {h0 : List AObj} (V0 : σ → AV) (H : σ → List AObj) (M : σ → Nat) (Q : σ → Prop) (s0 : σ) (hv : lv = [V0 s0]) (hh : h0 = H s0) (q0 : Q s0)
    (step : ∀ (I : LB), (∀ {n : Nat} {lv : List AV} {h : List AObj} (s : σ), M s < n → lv = [V0 s] → h = H s → Q s → ∃ m, m < n ∧ I m lv h) → ∀ s, Q s → B I (M s) (H s) (V0 s)) : ∃ I : LB, (∃ n, I n lv h0) ∧ ∀ n h, ∀ t0, I n [t0] h → B I n h t0 := by
  refine ⟨fun m lv h => ∃ s, m = M s ∧ lv = [V0 s] ∧ h = H s ∧ Q s, ⟨_, s0, rfl, hv, hh, q0⟩, ?_⟩
  rintro n h t0 ⟨s, rfl, e, rfl, q⟩
  cases e
  exact step _ (fun s hm hv hh q => ⟨_, hm, s, rfl, hv, hh, q⟩) s q
theorem loop2 {B : LB → Nat → List AObj → AV → AV → Prop} {lv : List AV} {h0 : List AObj} (V0 V1 : σ → AV) (H : σ → List AObj) (M : σ → Nat) (Q : σ → Prop) (s0 : σ) (hv : lv = [V0 s0, V1 s0]) (hh : h0 = H s0) (q0 : Q s0)
    (step : ∀ (I : LB), (∀ {n : Nat} {lv : List AV} {h : List AObj} (s : σ), M s < n → lv = [V0 s, V1 s] → h = H s → Q s → ∃ m, m < n ∧ I m lv h) → ∀ s, Q s → B I (M s) (H s) (V0 s) (V1 s)) : ∃ I : LB, (∃ n, I n lv h0) ∧ ∀ n h, ∀ t0 t1, I n [t0, t1] h → B I n h t0 t1 := by
  refine ⟨fun m lv h => ∃ s, m = M s ∧ lv = [V0 s, V1 s] ∧ h = H s ∧ Q s, ⟨_, s0, rfl, hv, hh, q0⟩, ?_⟩
  rintro n h t0 t1 ⟨s, rfl, e, rfl, q⟩
  cases e
  exact step _ (fun s hm hv hh q => ⟨_, hm, s, rfl, hv, hh, q⟩) s q
theorem loop3 {B : LB → Nat → List AObj → AV → AV → AV → Prop} {lv : List AV} {h0 : List AObj} (V0 V1 V2 : σ → AV) (H : σ → List AObj) (M : σ → Nat) (Q : σ → Prop) (s0 : σ) (hv : lv = [V0 s0, V1 s0, V2 s0]) (hh : h0 = H s0) (q0 : Q s0)
    (step : ∀ (I : LB), (∀ {n : Nat} {lv : List AV} {h : List AObj} (s : σ), M s < n → lv = [V0 s, V1 s, V2 s] → h = H s → Q s → ∃ m, m < n ∧ I m lv h) → ∀ s, Q s → B I (M s) (H s) (V0 s) (V1 s) (V2 s)) : ∃ I : LB, (∃ n, I n lv h0) ∧ ∀ n h, ∀ t0 t1 t2, I n [t0, t1, t2] h → B I n h t0 t1 t2 := by
  refine ⟨fun m lv h => ∃ s, m = M s ∧ lv = [V0 s, V1 s, V2 s] ∧ h = H s ∧ Q s, ⟨_, s0, rfl, hv, hh, q0⟩, ?_⟩
  rintro n h t0 t1 t2 ⟨s, rfl, e, rfl, q⟩
  cases e
  exact step _ (fun s hm hv hh q => ⟨_, hm, s, rfl, hv, hh, q⟩) s q
theorem loop4 {B : LB → Nat → List AObj → AV → AV → AV → AV → Prop} {lv : List AV} {h0 : List AObj} (V0 V1 V2 V3 : σ → AV) (H : σ → List AObj) (M : σ → Nat) (Q : σ → Prop) (s0 : σ) (hv : lv = [V0 s0, V1 s0, V2 s0, V3 s0]) (hh : h0 = H s0) (q0 : Q s0)
    (step : ∀ (I : LB), (∀ {n : Nat} {lv : List AV} {h : List AObj} (s : σ), M s < n → lv = [V0 s, V1 s, V2 s, V3 s] → h = H s → Q s → ∃ m, m < n ∧ I m lv h) → ∀ s, Q s → B I (M s) (H s) (V0 s) (V1 s) (V2 s) (V3 s)) : ∃ I : LB, (∃ n, I n lv h0) ∧ ∀ n h, ∀ t0 t1 t2 t3, I n [t0, t1, t2, t3] h → B I n h t0 t1 t2 t3 := by
  refine ⟨fun m lv h => ∃ s, m = M s ∧ lv = [V0 s, V1 s, V2 s, V3 s] ∧ h = H s ∧ Q s, ⟨_, s0, rfl, hv, hh, q0⟩, ?_⟩
  rintro n h t0 t1 t2 t3 ⟨s, rfl, e, rfl, q⟩
  cases e
  exact step _ (fun s hm hv hh q => ⟨_, hm, s, rfl, hv, hh, q⟩) s q
theorem loop5 {B : LB → Nat → List AObj → AV → AV → AV → AV → AV → Prop} {lv : List AV} {h0 : List AObj} (V0 V1 V2 V3 V4 : σ → AV) (H : σ → List AObj) (M : σ → Nat) (Q : σ → Prop) (s0 : σ) (hv : lv = [V0 s0, V1 s0, V2 s0, V3 s0, V4 s0]) (hh : h0 = H s0) (q0 : Q s0)
    (step : ∀ (I : LB), (∀ {n : Nat} {lv : List AV} {h : List AObj} (s : σ), M s < n → lv = [V0 s, V1 s, V2 s, V3 s, V4 s] → h = H s → Q s → ∃ m, m < n ∧ I m lv h) → ∀ s, Q s → B I (M s) (H s) (V0 s) (V1 s) (V2 s) (V3 s) (V4 s)) : ∃ I : LB, (∃ n, I n lv h0) ∧ ∀ n h, ∀ t0 t1 t2 t3 t4, I n [t0, t1, t2, t3, t4] h → B I n h t0 t1 t2 t3 t4 := by
  refine ⟨fun m lv h => ∃ s, m = M s ∧ lv = [V0 s, V1 s, V2 s, V3 s, V4 s] ∧ h = H s ∧ Q s, ⟨_, s0, rfl, hv, hh, q0⟩, ?_⟩
  rintro n h t0 t1 t2 t3 t4 ⟨s, rfl, e, rfl, q⟩
  cases e
  exact step _ (fun s hm hv hh q => ⟨_, hm, s, rfl, hv, hh, q⟩) s q
theorem loop6 {B : LB → Nat → List AObj → AV → AV → AV → AV → AV → AV → Prop} {lv : List AV} {h0 : List AObj} (V0 V1 V2 V3 V4 V5 : σ → AV) (H : σ → List AObj) (M : σ → Nat) (Q : σ → Prop) (s0 : σ) (hv : lv = [V0 s0, V1 s0, V2 s0, V3 s0, V4 s0, V5 s0]) (hh : h0 = H s0) (q0 : Q s0)
    (step : ∀ (I : LB), (∀ {n : Nat} {lv : List AV} {h : List AObj} (s : σ), M s < n → lv = [V0 s, V1 s, V2 s, V3 s, V4 s, V5 s] → h = H s → Q s → ∃ m, m < n ∧ I m lv h) → ∀ s, Q s → B I (M s) (H s) (V0 s) (V1 s) (V2 s) (V3 s) (V4 s) (V5 s)) : ∃ I : LB, (∃ n, I n lv h0) ∧ ∀ n h, ∀ t0 t1 t2 t3 t4 t5, I n [t0, t1, t2, t3, t4, t5] h → B I n h t0 t1 t2 t3 t4 t5 := by
  refine ⟨fun m lv h => ∃ s, m = M s ∧ lv = [V0 s, V1 s, V2 s, V3 s, V4 s, V5 s] ∧ h = H s ∧ Q s, ⟨_, s0, rfl, hv, hh, q0⟩, ?_⟩
  rintro n h t0 t1 t2 t3 t4 t5 ⟨s, rfl, e, rfl, q⟩
  cases e
  exact step _ (fun s hm hv hh q => ⟨_, hm, s, rfl, hv, hh, q⟩) s q
end
section
variable {A B : Prop}
theorem guard_tt : guardW (.bool true) true A B = A := by simp [guardW_bool]
theorem guard_tf : guardW (.bool true) false A B = B := by simp [guardW_bool]
theorem guard_ft : guardW (.bool false) true A B = B := by simp [guardW_bool]
theorem guard_ff : guardW (.bool false) false A B = A := by simp [guardW_bool]
end
theorem wnext {k : Nat} (h : k < 4611686018427387904) : IntKind.i64.wrap ((k : Int) + 1) = ((k + 1 : Nat) : Int) := by rw [w64 (by omega) (by omega)]; rfl
theorem wlen {k : Nat} (h : k < 4611686018427387904) : IntKind.i64.wrap (k : Int) = (k : Int) := w64 (by omega) (by omega)
theorem wdiv8 {k : Nat} (h : k < 4611686018427387904) : IntKind.i64.wrap ((k : Int).tdiv 8) = ((k / 8 : Nat) : Int) := by rw [tdiv8]; exact w64 (by omega) (by omega)
theorem wdiv16 {k : Nat} (h : k < 4611686018427387904) : IntKind.i64.wrap ((k : Int).tdiv 16) = ((k / 16 : Nat) : Int) := by rw [tdiv16]; exact w64 (by omega) (by omega)
theorem drop_cons {α : Type} (l : List α) (k : Nat) (d : α) (h : k < l.length) : l.drop k = l.getD k d :: l.drop (k + 1) := by
  rw [List.drop_eq_getElem_cons h, List.getD_eq_getElem?_getD, List.getElem?_eq_getElem h]; rfl
theorem getD_append_left {α : Type} (a b : List α) (k : Nat) (d : α) (h : k < a.length) : (a ++ b).getD k d = a.getD k d := by
  rw [List.getD_eq_getElem?_getD, List.getElem?_append_left h, List.getD_eq_getElem?_getD]
theorem getD_append_right {α : Type} (a b : List α) (k : Nat) (d : α) (h : a.length ≤ k) : (a ++ b).getD k d = b.getD (k - a.length) d := by
  rw [List.getD_eq_getElem?_getD, List.getElem?_append_right h, List.getD_eq_getElem?_getD]
theorem take_len {α : Type} (l : List α) {n : Nat} (h : l.length ≤ n) : l.take n = l := List.take_of_length_le h
/-- lists that are alike, place by place -/
theorem ext_d {α : Type} (d : α) {a b : List α} (hl : a.length = b.length) (h : ∀ i, i < a.length → a.getD i d = b.getD i d) : a = b := by
  apply List.ext_getElem hl
  intro i h1 h2
  have := h i h1
  rw [List.getD_eq_getElem?_getD, List.getD_eq_getElem?_getD, List.getElem?_eq_getElem h1, List.getElem?_eq_getElem h2] at this
  exact this
end Lam
namespace Lam
open Go
set_option linter.unusedVariables false
set_option linter.unnecessarySimpa false
set_option linter.unusedSimpArgs false
/-! ### Memories -/
def memV (vol per : List Int) (pend : List Pend) : AV := .agg [.sl false (.ints .i64 vol), .sl false (.ints .i64 per), .sl false (.pends pend)]
attribute [go_sem] memV
def lineOf (at_ : Int) : Int := IntKind.i64.wrap (at_.tdiv 8)
def szB (n : Int) : Bool := decide (n ≤ 4096) && decide (n.tmod 8 = 0)

/-- what is seen of what is kept, by what is pending; none: it may not be -/
def badB (p : Pend) (n : Nat) (o : Int → Bool) : Bool := decide (p.at_ < 0) || decide ((n : Int) ≤ p.at_) || (p.fl && o (lineOf p.at_))
def opens (p : Pend) (o : Int → Bool) : Int → Bool := fun j => if j = lineOf p.at_ then (o (lineOf p.at_) || !p.fl) else o j
def chk : List Pend → List Int → (Int → Bool) → Option (List Int)
  | [], l, _ => some l
  | p :: r, l, o => match badB p l.length o with
    | true => none
    | false => chk r (l.set p.at_.toNat p.val) (opens p o)
def checkB (vol per : List Int) (pend : List Pend) : Bool := decide (vol.length = per.length) && szB vol.length && decide (chk pend per (fun _ => false) = some vol)
def smallM (vol per : List Int) (pend : List Pend) : Prop := roomy vol.length ∧ roomy per.length ∧ roomy pend.length
def placeB (vol per : List Int) (pend : List Pend) (at_ : Int) : Bool := decide (0 ≤ at_) && decide (at_ < (vol.length : Int)) && checkB vol per pend
def firstI (vol : List Int) (line : Int) : Int := if decide (line < 0) || decide (((vol.length / 8 : Nat) : Int) ≤ line) then -1 else line * 8
def putM (vol per : List Int) (pend : List Pend) (at_ val : Int) : AV :=
  .tup [memV (if placeB vol per pend at_ = true then vol.set at_.toNat val else vol) per (if placeB vol per pend at_ = true then pend ++ [⟨at_, val, false⟩] else pend), .int .i64 (if placeB vol per pend at_ = true then 0 else 40)]
def flushP (line : Int) (pend : List Pend) : List Pend := pend.map fun p => if lineOf p.at_ = line then { p with fl := true } else p
def flushM (vol per : List Int) (pend : List Pend) (line : Int) : AV :=
  .tup [memV vol per (if placeB vol per pend (firstI vol line) = true then flushP line pend else pend), .int .i64 (if placeB vol per pend (firstI vol line) = true then 0 else 40)]
/-- those of which something holds are kept, and are pending no longer -/
def keepW (f : Pend → Bool) : List Pend → List Int → List Int
  | [], per => per
  | p :: r, per => keepW f r (match f p with | true => per.set p.at_.toNat p.val | false => per)
def keepP (f : Pend → Bool) (pend : List Pend) : List Pend := pend.filter fun p => !f p
theorem keepW_len (f : Pend → Bool) : ∀ (l : List Pend) (per : List Int), (keepW f l per).length = per.length
  | [], per => rfl
  | p :: r, per => by
    simp only [keepW]
    rw [keepW_len f r]
    split <;> simp
theorem keepW_snoc (f : Pend → Bool) (p : Pend) : ∀ (l : List Pend) (per : List Int), keepW f (l ++ [p]) per = match f p with | true => (keepW f l per).set p.at_.toNat p.val | false => keepW f l per
  | [], per => by simp only [List.nil_append, keepW]
  | q :: r, per => by simp only [List.cons_append, keepW]; exact keepW_snoc f p r _
theorem keepP_snoc (f : Pend → Bool) (p : Pend) (l : List Pend) : keepP f (l ++ [p]) = match f p with | true => keepP f l | false => keepP f l ++ [p] := by
  unfold keepP
  rw [List.filter_append]
  cases h : f p <;> simp [h]
theorem chk_range : ∀ (l : List Pend) (w : List Int) (o : Int → Bool) {v : List Int}, chk l w o = some v → (∀ p ∈ l, 0 ≤ p.at_ ∧ p.at_ < (w.length : Int)) ∧ v.length = w.length
  | [], w, o, v, h => by simp only [chk, Option.some.injEq] at h; subst h; exact ⟨fun p hp => (by cases hp), rfl⟩
  | p :: r, w, o, v, h => by
    simp only [chk] at h
    split at h
    · cases h
    · rename_i hb
      obtain ⟨c1, c2⟩ := chk_range r _ _ h
      rw [List.length_set] at c1 c2
      refine ⟨fun q hq => ?_, c2⟩
      rcases List.mem_cons.1 hq with rfl | hq
      · simp only [badB, Bool.or_eq_false_iff, decide_eq_false_iff_not] at hb
        omega
      · exact c1 q hq
theorem check_parts {vol per : List Int} {pend : List Pend} (h : checkB vol per pend = true) : vol.length = per.length ∧ szB vol.length = true ∧ chk pend per (fun _ => false) = some vol := by
  simp only [checkB, Bool.and_eq_true, decide_eq_true_eq] at h
  exact ⟨h.1.1, h.1.2, h.2⟩
theorem check_range {vol per : List Int} {pend : List Pend} (h : checkB vol per pend = true) : ∀ p ∈ pend, 0 ≤ p.at_ ∧ p.at_ < (per.length : Int) := (chk_range _ _ _ (check_parts h).2.2).1
def fFl (p : Pend) : Bool := p.fl
def fLn (line : Int) (p : Pend) : Bool := decide (lineOf p.at_ = line)
def fAll (p : Pend) : Bool := true
theorem place_check {vol per : List Int} {pend : List Pend} {a : Int} (h : placeB vol per pend a = true) : checkB vol per pend = true := by
  simp only [placeB, Bool.and_eq_true] at h; exact h.2
def fenceM (f : Pend → Bool) (ok : Bool) (vol per : List Int) (pend : List Pend) : AV :=
  .tup [memV vol (if ok = true then keepW f pend per else per) (if ok = true then keepP f pend else pend), .int .i64 (if ok = true then 0 else 40)]
def syncM (ok : Bool) (vol per : List Int) (pend : List Pend) : AV := fenceM fAll ok vol per pend
theorem lineOf_eq {a : Int} (h0 : 0 ≤ a) (h1 : a ≤ 1099511627776) : lineOf a = a / 8 := by
  unfold lineOf
  rw [Int.tdiv_eq_ediv_of_nonneg h0]
  exact w64 (by omega) (by omega)

theorem ext_getD {a b : List Int} (hl : a.length = b.length) (h : ∀ i, i < a.length → a.getD i 0 = b.getD i 0) : a = b := by
  apply List.ext_getElem hl
  intro i h1 h2
  have := h i h1
  rw [List.getD_eq_getElem?_getD, List.getD_eq_getElem?_getD, List.getElem?_eq_getElem h1, List.getElem?_eq_getElem h2] at this
  exact this
theorem getD_set (l : List Int) (i j : Nat) (v : Int) : (l.set i v).getD j 0 = if i = j ∧ i < l.length then v else l.getD j 0 := by
  rw [List.getD_eq_getElem?_getD, List.getElem?_set, List.getD_eq_getElem?_getD]
  by_cases h : i = j
  · subst h
    by_cases h2 : i < l.length
    · simp [h2]
    · simp [h2]
  · simp [h]

/-- pending stores are done -/
def app : List Pend → List Int → List Int
  | [], w => w
  | p :: r, w => app r (w.set p.at_.toNat p.val)
theorem app_len : ∀ (l : List Pend) (w : List Int), (app l w).length = w.length
  | [], w => rfl
  | p :: r, w => by rw [app, app_len r, List.length_set]
theorem app_append : ∀ (l r : List Pend) (w : List Int), app (l ++ r) w = app r (app l w)
  | [], r, w => rfl
  | p :: l, r, w => by rw [List.cons_append, app, app_append l, app]
theorem keepW_app (f : Pend → Bool) : ∀ (l : List Pend) (w : List Int), keepW f l w = app (l.filter f) w
  | [], w => rfl
  | p :: r, w => by
    simp only [keepW]
    rw [keepW_app f r]
    cases h : f p <;> simp [h, app]

/-- what stands at a place behind pending stores -/
def seen (a : Nat) : List Pend → Int → Int
  | [], d => d
  | p :: r, d => seen a r (if p.at_.toNat = a then p.val else d)
theorem seen_append (a : Nat) : ∀ (l r : List Pend) (d : Int), seen a (l ++ r) d = seen a r (seen a l d)
  | [], r, d => rfl
  | p :: l, r, d => by rw [List.cons_append, seen, seen_append a l, seen]
theorem app_getD : ∀ (l : List Pend) (w : List Int) (a : Nat), a < w.length → (app l w).getD a 0 = seen a l (w.getD a 0)
  | [], w, a, h => rfl
  | p :: r, w, a, h => by
    rw [app, app_getD r _ a (by rw [List.length_set]; exact h), seen, getD_set]
    congr 1
    by_cases e : p.at_.toNat = a
    · simp [e, h]
    · simp [e]
theorem seen_none (a : Nat) : ∀ (l : List Pend) (d : Int), (∀ p ∈ l, p.at_.toNat ≠ a) → seen a l d = d
  | [], d, h => rfl
  | p :: r, d, h => by
    rw [seen, if_neg (h p (by simp)), seen_none a r d fun q hq => h q (by simp [hq])]
theorem seen_filter (a : Nat) (f : Pend → Bool) : ∀ (l : List Pend) (d : Int), (∀ p ∈ l, p.at_.toNat = a → f p = true) → seen a (l.filter f) d = seen a l d
  | [], d, h => rfl
  | p :: r, d, h => by
    have ih := fun d => seen_filter a f r d fun q hq => h q (by simp [hq])
    cases hf : f p with
    | true => rw [List.filter_cons_of_pos hf, seen, seen, ih]
    | false =>
      rw [List.filter_cons_of_neg (by simp [hf]), ih, seen]
      have : ¬ p.at_.toNat = a := fun e => by have := h p (by simp) e; rw [hf] at this; cases this
      rw [if_neg this]
theorem seen_at (a : Nat) (l : List Pend) (d : Int) : seen a (l.filter fun p => decide (p.at_.toNat = a)) d = seen a l d := seen_filter a _ l d fun p _ h => by simp [h]

/-- who is kept is ahead of who is not, place by place -/
theorem filter_split {f : Pend → Bool} : ∀ {l : List Pend}, l.Pairwise (fun p q => f q = true → f p = true) → l.filter f ++ l.filter (fun p => !f p) = l
  | [], _ => rfl
  | p :: r, h => by
    rw [List.pairwise_cons] at h
    cases hf : f p with
    | true => rw [List.filter_cons_of_pos hf, List.filter_cons_of_neg (by simp [hf]), List.cons_append, filter_split h.2]
    | false =>
      have hn : ∀ q ∈ r, f q = false := fun q hq => by
        cases e : f q with
        | false => rfl
        | true => rw [h.1 q hq e] at hf; cases hf
      rw [List.filter_cons_of_neg (by simp [hf]), List.filter_cons_of_pos (by simp [hf])]
      have e1 : r.filter f = [] := List.filter_eq_nil_iff.2 fun q hq => by simp [hn q hq]
      have e2 : r.filter (fun p => !f p) = r := List.filter_eq_self.2 fun q hq => by simp [hn q hq]
      rw [e1, e2]; rfl
def LineWise (f : Pend → Bool) (l : List Pend) : Prop := l.Pairwise fun p q => lineOf p.at_ = lineOf q.at_ → f q = true → f p = true
theorem toNat_line {p q : Pend} (hp : 0 ≤ p.at_) (hq : 0 ≤ q.at_) (h : p.at_.toNat = q.at_.toNat) : lineOf p.at_ = lineOf q.at_ := by
  have : p.at_ = q.at_ := by omega
  rw [this]
theorem seen_split {f : Pend → Bool} {l : List Pend} (h0 : ∀ p ∈ l, 0 ≤ p.at_) (h : LineWise f l) (a : Nat) (d : Int) : seen a (l.filter fun p => !f p) (seen a (l.filter f) d) = seen a l d := by
  rw [← seen_append, ← seen_at a (_ ++ _), ← seen_at a l]
  congr 1
  rw [List.filter_append, List.filter_filter, List.filter_filter]
  have hp : (l.filter fun p => decide (p.at_.toNat = a)).Pairwise fun p q => f q = true → f p = true := by
    refine (List.Pairwise.and_mem.1 (List.Pairwise.filter _ h)).imp ?_
    rintro p q ⟨hp, hq, hpq⟩ hf
    rw [List.mem_filter, decide_eq_true_eq] at hp hq
    exact hpq (toNat_line (h0 p hp.1) (h0 q hq.1) (by omega)) hf
  have := filter_split hp
  rw [List.filter_filter, List.filter_filter] at this
  simpa [Bool.and_comm] using this

/-- a memory that may be -/
structure OkM (vol per : List Int) (pend : List Pend) : Prop where
  len : vol.length = per.length
  sz : vol.length ≤ 4096
  md : vol.length % 8 = 0
  rng : ∀ p ∈ pend, 0 ≤ p.at_ ∧ p.at_ < (per.length : Int)
  ord : LineWise (fun p => p.fl) pend
  eq : app pend per = vol

theorem chk_iff : ∀ (l : List Pend) (w v : List Int) (o : Int → Bool), chk l w o = some v ↔ (∀ p ∈ l, 0 ≤ p.at_ ∧ p.at_ < (w.length : Int)) ∧ LineWise (fun p => p.fl) l ∧ app l w = v ∧ ∀ q ∈ l, o (lineOf q.at_) = true → q.fl = false
  | [], w, v, o => by simp [chk, LineWise, app]
  | p :: r, w, v, o => by
    simp only [chk]
    cases hb : badB p w.length o with
    | true =>
      simp only [reduceCtorEq, false_iff]
      rintro ⟨h1, h2, h3, h4⟩
      have := h1 p (by simp)
      simp only [badB, Bool.or_eq_true, decide_eq_true_eq, Bool.and_eq_true] at hb
      rcases hb with (hb | hb) | hb
      · omega
      · omega
      · have := h4 p (by simp) hb.2
        rw [hb.1] at this; cases this
    | false =>
      simp only
      rw [chk_iff r _ v (opens p o), List.length_set]
      simp only [badB, Bool.or_eq_false_iff, decide_eq_false_iff_not, Bool.and_eq_false_iff] at hb
      simp only [List.forall_mem_cons, LineWise, List.pairwise_cons, app]
      constructor
      · rintro ⟨h1, h2, h3, h4⟩
        refine ⟨⟨by omega, h1⟩, ⟨fun q hq hl hf => ?_, h2⟩, h3, fun ho => ?_, fun q hq ho => ?_⟩
        · cases e : p.fl with
          | true => rfl
          | false =>
            have := h4 q hq (by unfold opens; rw [if_pos hl.symm]; simp [e])
            rw [hf] at this; cases this
        · rcases hb.2 with h | h
          · exact h
          · rw [ho] at h; cases h
        · apply h4 q hq
          unfold opens
          split
          · rename_i e; rw [← e, ho]; rfl
          · exact ho
      · rintro ⟨⟨h0, h1⟩, ⟨h5, h2⟩, h3, h6, h4⟩
        refine ⟨h1, h2, h3, fun q hq ho => ?_⟩
        unfold opens at ho
        split at ho
        · rename_i e
          rw [Bool.or_eq_true] at ho
          rcases ho with ho | ho
          · exact h4 q hq (by rw [e]; exact ho)
          · cases e2 : q.fl with
            | false => rfl
            | true =>
              have := h5 q hq e.symm e2
              rw [this] at ho; cases ho
        · exact h4 q hq ho

theorem check_iff {vol per : List Int} {pend : List Pend} : checkB vol per pend = true ↔ OkM vol per pend := by
  constructor
  · intro h
    obtain ⟨h1, h2, h3⟩ := check_parts h
    rw [chk_iff] at h3
    simp only [szB, Bool.and_eq_true, decide_eq_true_eq] at h2
    refine ⟨h1, by omega, ?_, h3.1, h3.2.1, h3.2.2.1⟩
    have := h2.2
    rw [Int.tmod_eq_emod_of_nonneg (by omega)] at this
    omega
  · intro h
    have h3 : chk pend per (fun _ => false) = some vol := by
      rw [chk_iff]
      exact ⟨h.rng, h.ord, h.eq, fun q _ hq => by cases hq⟩
    have hsz := h.sz
    have hmd := h.md
    simp only [checkB, Bool.and_eq_true, decide_eq_true_eq, szB]
    refine ⟨⟨h.len, by omega, ?_⟩, h3⟩
    rw [Int.tmod_eq_emod_of_nonneg (by omega)]
    omega

theorem OkM.vol_at {vol per : List Int} {pend : List Pend} (h : OkM vol per pend) {a : Nat} (ha : a < per.length) : vol.getD a 0 = seen a pend (per.getD a 0) := by
  rw [← h.eq, app_getD pend per a ha]

theorem OkM.put {vol per : List Int} {pend : List Pend} (h : OkM vol per pend) {a v : Int} (h0 : 0 ≤ a) (h1 : a < (vol.length : Int)) : OkM (vol.set a.toNat v) per (pend ++ [⟨a, v, false⟩]) := by
  refine ⟨by rw [List.length_set]; exact h.len, by rw [List.length_set]; exact h.sz, by rw [List.length_set]; exact h.md, fun p hp => ?_, ?_, ?_⟩
  · rcases List.mem_append.1 hp with hp | hp
    · exact h.rng p hp
    · rw [List.mem_singleton] at hp; subst hp
      have := h.len
      exact ⟨h0, by show a < _; omega⟩
  · unfold LineWise
    rw [List.pairwise_append]
    refine ⟨h.ord, List.pairwise_singleton _ _, fun p hp q hq => ?_⟩
    rw [List.mem_singleton] at hq; subst hq
    intro _ hf; cases hf
  · rw [app_append, h.eq]; rfl

theorem app_flush (line : Int) : ∀ (l : List Pend) (w : List Int), app (flushP line l) w = app l w
  | [], w => rfl
  | p :: r, w => by
    show app ((if lineOf p.at_ = line then { p with fl := true } else p) :: flushP line r) w = _
    rw [app, app, app_flush line r]
    split <;> rfl
theorem OkM.flush {vol per : List Int} {pend : List Pend} (h : OkM vol per pend) (line : Int) : OkM vol per (flushP line pend) := by
  refine ⟨h.len, h.sz, h.md, fun p hp => ?_, ?_, by rw [app_flush]; exact h.eq⟩
  · obtain ⟨q, hq, rfl⟩ := List.mem_map.1 hp
    have := h.rng q hq
    split <;> exact this
  · unfold LineWise flushP
    rw [List.pairwise_map]
    refine h.ord.imp ?_
    intro p q hpq
    by_cases e1 : lineOf p.at_ = line <;> by_cases e2 : lineOf q.at_ = line
    · rw [if_pos e1, if_pos e2]; intros; rfl
    · rw [if_pos e1, if_neg e2]; intros; rfl
    · rw [if_neg e1, if_pos e2]; intro e; exact absurd (e.trans e2) e1
    · rw [if_neg e1, if_neg e2]; exact hpq
theorem OkM.keep {vol per : List Int} {pend : List Pend} (h : OkM vol per pend) {f : Pend → Bool} (hf : LineWise f pend) : OkM vol (keepW f pend per) (keepP f pend) := by
  rw [keepW_app]
  refine ⟨by rw [app_len]; exact h.len, h.sz, h.md, fun p hp => ?_, List.Pairwise.filter _ h.ord, ?_⟩
  · rw [app_len]; exact h.rng p (List.mem_filter.1 hp).1
  · apply ext_getD
    · rw [app_len, app_len]; exact h.len.symm
    intro i hi
    rw [app_len, app_len] at hi
    unfold keepP
    rw [app_getD _ _ _ (by rw [app_len]; exact hi), app_getD _ _ _ hi, seen_split (fun p hp => (h.rng p hp).1) hf, h.vol_at hi]
theorem lineWise_line (line : Int) (l : List Pend) : LineWise (fLn line) l := by
  unfold LineWise fLn
  rw [List.pairwise_iff_forall_sublist]
  intro p q _ e h
  rw [e]; exact h
theorem OkM.fence {vol per : List Int} {pend : List Pend} (h : OkM vol per pend) : OkM vol (keepW fFl pend per) (keepP fFl pend) := h.keep h.ord
theorem OkM.evict {vol per : List Int} {pend : List Pend} (h : OkM vol per pend) (line : Int) : OkM vol (keepW (fLn line) pend per) (keepP (fLn line) pend) := h.keep (lineWise_line line pend)

/-- who is kept by a crash: of each line as many more as it says -/
def lessL (p : Pend) (left : Int → Int) : Int → Int := fun j => if j = lineOf p.at_ then (if left (lineOf p.at_) > 1 then left (lineOf p.at_) else 1) - 1 else left j
def crashK : List Pend → (Int → Int) → List Pend
  | [], _ => []
  | p :: r, left => match decide (0 < left (lineOf p.at_)) with
    | true => p :: crashK r (lessL p left)
    | false => crashK r (lessL p left)
def leftF (keep : List Int) : Int → Int := fun j => if 0 ≤ j then keep.getD j.toNat 0 else 0
/-- words that are words -/
def i64s (l : List Int) : Prop := ∀ x ∈ l, x < 9223372036854775808
theorem leftF_lt {keep : List Int} (h : i64s keep) (j : Int) : leftF keep j < 9223372036854775808 := by
  unfold leftF
  split
  · rw [List.getD_eq_getElem?_getD]
    cases e : keep[j.toNat]? with
    | none => decide
    | some x => exact h x (List.mem_of_getElem? e)
  · decide
theorem leftF_nil : leftF [] = fun _ => 0 := by
  funext j; unfold leftF; split <;> simp
theorem leftF_next (keep : List Int) {k : Nat} (h : k < keep.length) : leftF (keep.take (k + 1)) = fun j => if j = (k : Int) then keep.getD k 0 else leftF (keep.take k) j := by
  funext j
  unfold leftF
  by_cases e : j = (k : Int)
  · subst e
    rw [if_pos rfl, if_pos (by omega), Int.toNat_natCast, take_next keep k 0 h, getD_append_right _ _ _ _ (by rw [List.length_take]; omega)]
    have : k - (keep.take k).length = 0 := by simp; omega
    rw [this]; rfl
  · rw [if_neg e]
    by_cases h0 : 0 ≤ j
    · rw [if_pos h0, if_pos h0, List.getD_eq_getElem?_getD, List.getD_eq_getElem?_getD, List.getElem?_take, List.getElem?_take]
      by_cases h1 : j.toNat < k
      · rw [if_pos (by omega), if_pos h1]
      · rw [if_neg (by omega), if_neg h1]
    · rw [if_neg h0, if_neg h0]
def crashW (keep : List Int) (per : List Int) (pend : List Pend) : List Int := app (crashK pend (leftF keep)) per

theorem crashK_line (L : Int) : ∀ (l : List Pend) (left : Int → Int), (crashK l left).filter (fLn L) = (l.filter (fLn L)).take (left L).toNat
  | [], left => by simp [crashK]
  | p :: r, left => by
    have ih := crashK_line L r (lessL p left)
    simp only [crashK]
    by_cases e : lineOf p.at_ = L
    · have ef : fLn L p = true := decide_eq_true e
      have el : (lessL p left L).toNat = (left L).toNat - 1 := by
        unfold lessL; rw [if_pos e.symm, e]; split <;> omega
      by_cases h : 0 < left (lineOf p.at_)
      · rw [decide_eq_true h]
        simp only
        rw [List.filter_cons_of_pos ef, List.filter_cons_of_pos ef, ih, el]
        rw [e] at h
        obtain ⟨n, hn⟩ : ∃ n, (left L).toNat = n + 1 := ⟨(left L).toNat - 1, by omega⟩
        rw [hn]; rfl
      · rw [decide_eq_false h]
        simp only
        rw [List.filter_cons_of_pos ef, ih, el]
        rw [e] at h
        have : (left L).toNat = 0 := by omega
        rw [this]; rfl
    · have ef : ¬ fLn L p = true := by unfold fLn; simp [e]
      have el : lessL p left L = left L := by unfold lessL; rw [if_neg (fun h => e h.symm)]
      rw [el] at ih
      split
      · rw [List.filter_cons_of_neg ef, List.filter_cons_of_neg ef, ih]
      · rw [List.filter_cons_of_neg ef, ih]
theorem crashK_sub : ∀ (l : List Pend) (left : Int → Int), (crashK l left).Sublist l
  | [], left => List.Sublist.refl _
  | p :: r, left => by
    simp only [crashK]
    split
    · exact (crashK_sub r _).cons_cons p
    · exact (crashK_sub r _).cons p
theorem crashW_len (keep per : List Int) (pend : List Pend) : (crashW keep per pend).length = per.length := app_len _ _
/-- what a crash keeps of a place: of its line as many more as it says -/
theorem crash_at {vol per : List Int} {pend : List Pend} (h : OkM vol per pend) (keep : List Int) {a : Nat} (ha : a < per.length) :
    (crashW keep per pend).getD a 0 = seen a ((pend.filter (fLn ((a : Int) / 8))).take (leftF keep ((a : Int) / 8)).toNat) (per.getD a 0) := by
  unfold crashW
  rw [app_getD _ _ _ ha, ← crashK_line, seen_filter]
  intro p hp e
  have := h.rng p ((crashK_sub _ _).subset hp)
  have := h.len
  have := h.sz
  unfold fLn
  rw [decide_eq_true_eq, lineOf_eq (by omega) (by omega)]
  omega
theorem place_first {vol per : List Int} {pend : List Pend} (h : smallM vol per pend) (line : Int) : (!checkB vol per pend || !(decide (0 ≤ line) && decide (line < ((vol.length / 8 : Nat) : Int)))) = !placeB vol per pend (firstI vol line) := by
  obtain ⟨h1, h2, h3⟩ := h
  unfold roomy at h1 h2 h3
  unfold placeB firstI
  cases checkB vol per pend
  · simp
  · by_cases c : 0 ≤ line ∧ line < ((vol.length / 8 : Nat) : Int)
    · have e : (decide (line < 0) || decide (((vol.length / 8 : Nat) : Int) ≤ line)) = false := by
        rw [Bool.or_eq_false_iff, decide_eq_false_iff_not, decide_eq_false_iff_not]; omega
      rw [if_neg (by rw [e]; decide), decide_eq_true c.1, decide_eq_true c.2, decide_eq_true (show 0 ≤ line * 8 by omega), decide_eq_true (show line * 8 < (vol.length : Int) by omega)]; rfl
    · have e : (decide (line < 0) || decide (((vol.length / 8 : Nat) : Int) ≤ line)) = true := by
        rw [Bool.or_eq_true, decide_eq_true_eq, decide_eq_true_eq]; omega
      rw [if_pos e]
      have : (decide (0 ≤ line) && decide (line < ((vol.length / 8 : Nat) : Int))) = false := by
        rw [Bool.and_eq_false_iff, decide_eq_false_iff_not, decide_eq_false_iff_not]; omega
      rw [this]; rfl
def fewB (vol per : List Int) (pend : List Pend) : Bool := decide (vol.length ≤ 300) && decide (per.length ≤ 300) && decide (pend.length ≤ 100)
def newM (l : List Int) : AV := .tup [memV (if szB l.length = true then l else []) (if szB l.length = true then l else []) [], .int .i64 (if szB l.length = true then 0 else 40)]
def crashM (ok : Bool) (keep per : List Int) (pend : List Pend) : AV := .tup [.sl false (.ints .i64 (if ok = true then crashW keep per pend else [])), .int .i64 (if ok = true then 0 else 40)]
section
variable {vol per : List Int} {pend : List Pend} {a v line : Int} {f : Pend → Bool} {keep : List Int}
theorem putM_ok (h : placeB vol per pend a = true) : putM vol per pend a v = .tup [memV (vol.set a.toNat v) per (pend ++ [⟨a, v, false⟩]), .int .i64 0] := by unfold putM; simp only [h, if_true]
theorem putM_no (h : placeB vol per pend a = false) : putM vol per pend a v = .tup [memV vol per pend, .int .i64 40] := by unfold putM; rw [h]; rfl
theorem flushM_ok (h : placeB vol per pend (firstI vol line) = true) : flushM vol per pend line = .tup [memV vol per (flushP line pend), .int .i64 0] := by unfold flushM; simp only [h, if_true]
theorem flushM_no (h : placeB vol per pend (firstI vol line) = false) : flushM vol per pend line = .tup [memV vol per pend, .int .i64 40] := by unfold flushM; rw [h]; rfl
theorem fenceM_ok : fenceM f true vol per pend = .tup [memV vol (keepW f pend per) (keepP f pend), .int .i64 0] := rfl
theorem fenceM_no : fenceM f false vol per pend = .tup [memV vol per pend, .int .i64 40] := rfl
theorem crashM_ok : crashM true keep per pend = .tup [.sl false (.ints .i64 (crashW keep per pend)), .int .i64 0] := rfl
theorem crashM_no : crashM false keep per pend = .tup [.sl false (.ints .i64 []), .int .i64 40] := rfl
theorem newM_ok {l : List Int} (h : szB l.length = true) : newM l = .tup [memV l l [], .int .i64 0] := by unfold newM; simp only [h, if_true]
theorem newM_no {l : List Int} (h : szB l.length = false) : newM l = .tup [memV [] [] [], .int .i64 40] := by unfold newM; rw [h]; rfl
theorem place_iff : placeB vol per pend a = true ↔ (0 ≤ a ∧ a < (vol.length : Int)) ∧ OkM vol per pend := by
  simp only [placeB, Bool.and_eq_true, decide_eq_true_eq, check_iff]
theorem OkM.small (h : OkM vol per pend) (hp : pend.length ≤ 1000000) : smallM vol per pend := by
  have := h.sz; have := h.len
  unfold smallM roomy; omega
theorem OkM.first (h : OkM vol per pend) (h0 : 0 ≤ line) (h1 : line < ((vol.length / 8 : Nat) : Int)) : firstI vol line = line * 8 ∧ placeB vol per pend (firstI vol line) = true := by
  have e : firstI vol line = line * 8 := by
    unfold firstI
    rw [if_neg]
    simp only [Bool.or_eq_true, decide_eq_true_eq]; omega
  refine ⟨e, place_iff.2 ⟨?_, h⟩⟩
  rw [e]; omega
theorem first_no (hn : ¬ (0 ≤ line ∧ line < ((vol.length / 8 : Nat) : Int))) : placeB vol per pend (firstI vol line) = false := by
  have e : firstI vol line = -1 := by
    unfold firstI
    rw [if_pos]
    simp only [Bool.or_eq_true, decide_eq_true_eq]; omega
  rw [e]
  unfold placeB; rfl
theorem flushP_len (line : Int) (l : List Pend) : (flushP line l).length = l.length := by simp [flushP]
theorem keepP_len (f : Pend → Bool) (l : List Pend) : (keepP f l).length ≤ l.length := List.length_filter_le _ _
theorem few_iff : fewB vol per pend = true ↔ vol.length ≤ 300 ∧ per.length ≤ 300 ∧ pend.length ≤ 100 := by
  simp only [fewB, Bool.and_eq_true, decide_eq_true_eq, and_assoc]
theorem wf_i64s {l : List Int} (h : wfL (.ints .i64 l)) : i64s l := fun x hx => (wf_64 (h x hx)).2
/-- a line's own, pending, once it was kept -/
theorem keep_line (h : OkM vol per pend) (hf : LineWise f pend) (hl : ∀ p ∈ pend, lineOf p.at_ = line → f p = true) {i : Nat} (hi : i < per.length) (hli : (i : Int) / 8 = line) :
    (∀ p ∈ keepP f pend, lineOf p.at_ ≠ line) ∧ (keepW f pend per).getD i 0 = vol.getD i 0 ∧ ∀ keep, (crashW keep (keepW f pend per) (keepP f pend)).getD i 0 = vol.getD i 0 := by
  have hn : ∀ p ∈ keepP f pend, lineOf p.at_ ≠ line := by
    intro p hp e
    obtain ⟨h1, h2⟩ := List.mem_filter.1 hp
    rw [hl p h1 e] at h2; cases h2
  have ho := h.keep hf
  have hna : ∀ p ∈ keepP f pend, p.at_.toNat ≠ i := by
    intro p hp e
    have hr := ho.rng p hp
    have hz := h.sz
    have hln := ho.len
    apply hn p hp
    rw [lineOf_eq hr.1 (by omega), ← hli]
    omega
  have hlen : i < (keepW f pend per).length := by rw [keepW_len]; exact hi
  refine ⟨hn, ?_, fun keep => ?_⟩
  · have := ho.vol_at hlen
    rw [seen_none i _ _ hna] at this
    exact this.symm
  · rw [crash_at ho keep hlen, seen_none]
    · have := ho.vol_at hlen
      rw [seen_none i _ _ hna] at this
      exact this.symm
    · intro p hp; exact hna p (List.mem_filter.1 ((List.take_sublist _ _).subset hp)).1
end
theorem OkM.of_put {vol per : List Int} {pend : List Pend} (h : OkM vol per pend) {a v : Int} (h0 : 0 ≤ a) (h1 : a < (vol.length : Int)) : checkB (vol.set a.toNat v) per (pend ++ [⟨a, v, false⟩]) = true := check_iff.2 (h.put h0 h1)
theorem set_set_comm {l : List Int} {i j : Nat} {x y : Int} (h : i ≠ j) : (l.set i x).set j y = (l.set j y).set i x := List.set_comm _ _ h
theorem crash_none {vol per : List Int} {pend : List Pend} (h : OkM vol per pend) : crashW [] per pend = per := by
  apply ext_getD (crashW_len _ _ _)
  intro i hi
  rw [crashW_len] at hi
  rw [crash_at h [] hi, leftF_nil]; rfl
theorem fLn_at {vol per : List Int} {pend : List Pend} (h : OkM vol per pend) {p : Pend} (hp : p ∈ pend) {i : Nat} : p.at_.toNat = i → fLn ((i : Int) / 8) p = true := by
  intro e
  have hr := h.rng p hp
  have := h.len
  have := h.sz
  unfold fLn
  rw [decide_eq_true_eq, lineOf_eq hr.1 (by omega)]
  omega
theorem crash_all {vol per : List Int} {pend : List Pend} (h : OkM vol per pend) {n : Nat} (hn : vol.length / 8 ≤ n) {c : Int} (hc : (pend.length : Int) ≤ c) : crashW (List.replicate n c) per pend = vol := by
  have hlen := h.len
  have hmd := h.md
  apply ext_getD (by rw [crashW_len]; exact hlen.symm)
  intro i hi
  rw [crashW_len] at hi
  rw [crash_at h _ hi, h.vol_at hi]
  have hl : leftF (List.replicate n c) ((i : Int) / 8) = c := by
    unfold leftF
    rw [if_pos (by omega), List.getD_eq_getElem?_getD, List.getElem?_replicate, if_pos (by omega)]; rfl
  have hfl := List.length_filter_le (fLn ((i : Int) / 8)) pend
  rw [hl, List.take_of_length_le (by omega)]
  exact seen_filter i _ _ _ fun p hp e => fLn_at h hp e
/-- what a crash keeps, line by line -/
def wantL (keep : List Int) (pend : List Pend) (j : Nat) : List Pend := (pend.filter (fLn j)).take (leftF keep j).toNat
def wants (keep : List Int) (pend : List Pend) : Nat → List Pend
  | 0 => []
  | n + 1 => wants keep pend n ++ wantL keep pend n
theorem wants_at {vol per : List Int} {pend : List Pend} (h : OkM vol per pend) (keep : List Int) (i : Nat) (d : Int) : ∀ n, seen i (wants keep pend n) d = if i / 8 < n then seen i (wantL keep pend (i / 8)) d else d
  | 0 => rfl
  | n + 1 => by
    rw [wants, seen_append, wants_at h keep i d n]
    have hn : i / 8 ≠ n → ∀ d, seen i (wantL keep pend n) d = d := fun hne d => by
      apply seen_none
      intro p hp e
      unfold wantL at hp
      obtain ⟨hp, hf⟩ := List.mem_filter.1 ((List.take_sublist _ _).subset hp)
      have := fLn_at h hp e
      unfold fLn at this hf
      rw [decide_eq_true_eq] at this hf
      rw [this] at hf
      omega
    by_cases e : i / 8 = n
    · subst e
      rw [if_neg (by omega), if_pos (by omega)]
    · rw [hn e]
      by_cases e2 : i / 8 < n
      · rw [if_pos e2, if_pos (by omega)]
      · rw [if_neg e2, if_neg (by omega)]
theorem wants_crash {vol per : List Int} {pend : List Pend} (h : OkM vol per pend) (keep : List Int) : app (wants keep pend (vol.length / 8)) per = crashW keep per pend := by
  have hlen := h.len
  have hmd := h.md
  apply ext_getD (by rw [app_len, crashW_len])
  intro i hi
  rw [app_len] at hi
  rw [app_getD _ _ _ hi, crash_at h keep hi, wants_at h, if_pos (by omega)]
  unfold wantL
  rw [show ((i / 8 : Nat) : Int) = (i : Int) / 8 from by omega]
end Lam
namespace Lam
open Go Go.Proofs
set_option linter.unusedVariables false
def T_unit : TyD := (.tup [])
def T_func : TyD := .func
def T_int64 : TyD := (.int .i64)
def T_int : TyD := (.int .i64)
def T_bool : TyD := .bool
def T_sl_int : TyD := (.slice (.int .i64))
def T_sl_api_Pending : TyD := (.slice .pend)
def T_api_Mem : TyD := (.strct [(.slice (.int .i64)), (.slice (.int .i64)), (.slice .pend)])
def T_api_Errno : TyD := (.int .i64)
def T_api_Mem_api_Errno : TyD := (.tup [(.strct [(.slice (.int .i64)), (.slice (.int .i64)), (.slice .pend)]), (.int .i64)])
def T_sl_int_api_Errno : TyD := (.tup [(.slice (.int .i64)), (.int .i64)])
def T_api_Pending : TyD := (.strct [(.int .i64), (.int .i64), .bool])
def T_funcint_bool : TyD := .func
def T_map_int_bool : TyD := (.map .ib)
def T_func_funcint_bool : TyD := .func
def T_iter_Seq_int : TyD := .func
def T_funcapi_Pending_bool : TyD := .func
def T_map_int_int : TyD := (.map .ii)
def T_sl_bool : TyD := (.slice .bool)
attribute [go_sem] T_unit T_func T_int64 T_int T_bool T_sl_int T_sl_api_Pending T_api_Mem T_api_Errno T_api_Mem_api_Errno T_sl_int_api_Errno T_api_Pending T_funcint_bool T_map_int_bool T_func_funcint_bool T_iter_Seq_int T_funcapi_Pending_bool T_map_int_int T_sl_bool
def tab : TypeId → TyD
  | 0 => T_unit
  | 1 => T_func
  | 2 => T_int64
  | 3 => T_int
  | 4 => T_bool
  | 22 => T_sl_int
  | 23 => T_sl_api_Pending
  | 25 => T_api_Mem
  | 28 => T_api_Errno
  | 29 => T_api_Mem_api_Errno
  | 32 => T_sl_int_api_Errno
  | 35 => T_api_Pending
  | 45 => T_funcint_bool
  | 47 => T_map_int_bool
  | 51 => T_func_funcint_bool
  | 52 => T_iter_Seq_int
  | 55 => T_funcapi_Pending_bool
  | 56 => T_map_int_int
  | 58 => T_sl_bool
  | _ => .other
theorem tab_ok : TabOk Try.prog tab := by
  intro T
  unfold tab
  split <;> kernel_rfl
theorem tab_sh (T : TypeId) : (tab T).shallow := by
  unfold tab
  split <;> (unfold TyD.shallow; decide)
theorem mixed : Try.prog.follows .mixedOrders = true := by kernel_rfl
def ctx (F : List (FuncId × Contract)) (S : List (FuncId × Con)) (lp : Nat → LInfo) : Ctx := ⟨tab, lookF F, lookS S, fun _ _ _ _ _ => False, lp, false, fun _ _ _ _ => False⟩
def ctxI (F : List (FuncId × Contract)) (S : List (FuncId × Con)) (Is : List (FuncId × (Con → Con))) (lp : Nat → LInfo) : Ctx := ⟨tab, lookF F, lookS S, lookI Is, lp, false, fun _ _ _ _ => False⟩
@[go_sem] theorem ctx_drawn (F : List (FuncId × Contract)) (S : List (FuncId × Con)) (lp : Nat → LInfo) : (ctx F S lp).drawn = false := (rfl)
@[go_sem] theorem ctxI_drawn (F : List (FuncId × Contract)) (S : List (FuncId × Con)) (Is : List (FuncId × (Con → Con))) (lp : Nat → LInfo) : (ctxI F S Is lp).drawn = false := (rfl)
@[go_sem] theorem ctxI_envF (F : List (FuncId × Contract)) (S : List (FuncId × Con)) (Is : List (FuncId × (Con → Con))) (lp : Nat → LInfo) : (ctxI F S Is lp).envF = lookF F := (rfl)
@[go_sem] theorem ctxI_envS (F : List (FuncId × Contract)) (S : List (FuncId × Con)) (Is : List (FuncId × (Con → Con))) (lp : Nat → LInfo) : (ctxI F S Is lp).envS = lookS S := (rfl)
@[go_sem] theorem ctxI_iterS (F : List (FuncId × Contract)) (S : List (FuncId × Con)) (Is : List (FuncId × (Con → Con))) (lp : Nat → LInfo) : (ctxI F S Is lp).iterS = lookI Is := (rfl)
@[go_sem] theorem ctx_envF (F : List (FuncId × Contract)) (S : List (FuncId × Con)) (lp : Nat → LInfo) : (ctx F S lp).envF = lookF F := (rfl)
@[go_sem] theorem ctx_envS (F : List (FuncId × Contract)) (S : List (FuncId × Con)) (lp : Nat → LInfo) : (ctx F S lp).envS = lookS S := (rfl)
theorem ctx_ok {F : List (FuncId × Contract)} {S : List (FuncId × Con)} (hF : ∀ p ∈ F, FSpec Try.prog p.1 p.2) (hS : ∀ p ∈ S, SSpec Try.prog p.1 p.2) (lp : Nat → LInfo) : Ok Try.prog (ctx F S lp) :=
  ⟨⟨⟨tab_ok, tab_sh, fok_look hF⟩, sok_look hS, rfl, mixed, is_none⟩, fun _ _ _ _ h => h⟩
theorem ctxI_ok {F : List (FuncId × Contract)} {S : List (FuncId × Con)} {Is : List (FuncId × (Con → Con))} (hF : ∀ p ∈ F, FSpec Try.prog p.1 p.2) (hS : ∀ p ∈ S, SSpec Try.prog p.1 p.2) (hI : ∀ p ∈ Is, ISpec Try.prog p.1 p.2) (lp : Nat → LInfo) : Ok Try.prog (ctxI F S Is lp) :=
  ⟨⟨⟨tab_ok, tab_sh, fok_look hF⟩, sok_look hS, rfl, mixed, isok_look hI⟩, fun _ _ _ _ h => h⟩
end Lam
namespace Lam
open Go Go.Proofs
set_option linter.unusedVariables false
def pmem_Check.loops : Nat → LInfo
  | 1 => ⟨[], [], [], [(8, none), (5, some [14, 19])], []⟩
  | 6 => ⟨[28], [false], [1, 3, 4, 26, 27], [], []⟩
  | 8 => ⟨[], [], [], [(4, none), (5, some [35, 40]), (2, none), (9, some [42, 51])], []⟩
  | 10 => ⟨[], [], [], [(10, none), (3, some [62, 65])], []⟩
  | _ => ⟨[], [], [], [], []⟩
def pmem_Check.L1 (c : Ctx) (J2 : AV → AV → List AObj → Prop) (K : AOut → List AObj → Prop) (lv : List AV) (h0 : List AObj) (n0 : Nat) (c1 : AV) (c3 : AV) (c4 : AV) (c26 : AV) (c27 : AV) : Prop :=
  ∃ I : Nat → List AV → List AObj → Prop, (∃ n, I n lv h0) ∧ ∀ n h, ∀ t28, I n [t28] h →
    runD (binD T_int .lss t28 c27) h fun t29 h =>
    condW t29
    (runD (indexAddrD T_sl_api_Pending h c26 t28) h fun t30 h =>
    runD (fitD T_api_Pending (loadD h t30)) h fun t31 h =>
    allocW T_api_Pending h fun t6 h =>
    runH (storeH T_api_Pending h t6 t31) h fun _ h =>
    runD (fieldAddrD T_api_Pending t6 0) h fun t32 h =>
    runD (fitD T_int (loadD h t32)) h fun t33 h =>
    runD (binD T_int .lss t33 (.int .i64 0)) h fun t34 h =>
    joinW (fun (J3 : AV → AV → List AObj → Prop) =>
    guardW t34 false
    (runD (fieldAddrD T_api_Pending t6 0) h fun t36 h =>
      runD (fitD T_int (loadD h t36)) h fun t37 h =>
      runD (lenD T_sl_int h c3) h fun t39 h =>
      runD (binD T_int .geq t37 t39) h fun t40 h =>
      J3 (.bool false) t40 h)
    (J3 (.bool true) .und h))
    (fun t35 t40 h => runD (pickD t35 (.bool true) t40) h fun t41 h =>
    joinW (fun (J4 : AV → AV → List AObj → Prop) =>
    guardW t41 false
    (runD (fieldAddrD T_api_Pending t6 2) h fun t43 h =>
      runD (fitD T_bool (loadD h t43)) h fun t44 h =>
      joinW (fun (J5 : AV → AV → List AObj → Prop) =>
      guardW t44 true
      (runD (fieldAddrD T_api_Pending t6 0) h fun t47 h =>
        runD (fitD T_int (loadD h t47)) h fun t48 h =>
        runD (binD T_int .quo t48 (.int .i64 8)) h fun t49 h =>
        runD (lookupD T_map_int_bool h c4 t49) h fun t50 h =>
        J5 (.bool true) t50 h)
      (J5 (.bool false) .und h))
      (fun t45 t50 h => runD (pickD t45 t50 (.bool false)) h fun t51 h =>
      J4 (.bool false) t51 h))
    (J4 (.bool true) .und h))
    (fun t42 t51 h => runD (pickD t42 (.bool true) t51) h fun t52 h =>
    condW t52
    (K (.ret (.bool false)) h)
    (runD (fieldAddrD T_api_Pending t6 0) h fun t54 h =>
    runD (fitD T_int (loadD h t54)) h fun t55 h =>
    runD (binD T_int .quo t55 (.int .i64 8)) h fun t56 h =>
    runD (fieldAddrD T_api_Pending t6 0) h fun t58 h =>
    runD (fitD T_int (loadD h t58)) h fun t59 h =>
    runD (binD T_int .quo t59 (.int .i64 8)) h fun t60 h =>
    runD (lookupD T_map_int_bool h c4 t60) h fun t61 h =>
    joinW (fun (J6 : AV → AV → List AObj → Prop) =>
    guardW t61 false
    (runD (fieldAddrD T_api_Pending t6 2) h fun t63 h =>
      runD (fitD T_bool (loadD h t63)) h fun t64 h =>
      runD (unD .not t64) h fun t65 h =>
      J6 (.bool false) t65 h)
    (J6 (.bool true) .und h))
    (fun t62 t65 h => runD (pickD t62 (.bool true) t65) h fun t66 h =>
    runH (mapSetH T_map_int_bool h c4 t56 t66) h fun _ h =>
    runD (fieldAddrD T_api_Pending t6 0) h fun t68 h =>
    runD (fitD T_int (loadD h t68)) h fun t69 h =>
    runD (fieldAddrD T_api_Pending t6 1) h fun t70 h =>
    runD (fitD T_int (loadD h t70)) h fun t71 h =>
    runD (indexAddrD T_sl_int h c3 t69) h fun t72 h =>
    runH (storeH T_int h t72 t71) h fun _ h =>
    runD (binD T_int .add t28 (.int .i64 1)) h fun t73 h =>
    (∃ m, m < n ∧ I m (AV.norms n0 h [t73]) (normH n0 h)) ∧ AV.norms n0 h [c1, c3, c4, c26, c27] = [c1, c3, c4, c26, c27])))))
    (J2 c1 c3 h)
def pmem_Check.H (c : Ctx) (t0 : AV) (h : List AObj) (K : AOut → List AObj → Prop) : Prop :=
  boxW T_api_Mem t0 h fun t1 h =>
  runD (fieldAddrD T_api_Mem t1 0) h fun t7 h =>
  runD (fitD T_sl_int (loadD h t7)) h fun t8 h =>
  runD (lenD T_sl_int h t8) h fun t9 h =>
  runD (fieldAddrD T_api_Mem t1 1) h fun t10 h =>
  runD (fitD T_sl_int (loadD h t10)) h fun t11 h =>
  runD (lenD T_sl_int h t11) h fun t12 h =>
  runD (binD T_int .neq t9 t12) h fun t13 h =>
  joinW (fun (J1 : AV → AV → List AObj → Prop) =>
  guardW t13 false
  (runD (fieldAddrD T_api_Mem t1 0) h fun t15 h =>
    runD (fitD T_sl_int (loadD h t15)) h fun t16 h =>
    runD (lenD T_sl_int h t16) h fun t17 h =>
    callW c (.fn (.func 29) [] []) [t17] h (fun t18 h =>
    runD (unD .not t18) h fun t19 h =>
    J1 (.bool false) t19 h)
    (fun v h => K (.pan v) h))
  (J1 (.bool true) .und h))
  (fun t14 t19 h => runD (pickD t14 (.bool true) t19) h fun t20 h =>
  condW t20
  (K (.ret (.bool false)) h)
  (runD (fieldAddrD T_api_Mem t1 1) h fun t21 h =>
  runD (fitD T_sl_int (loadD h t21)) h fun t22 h =>
  callW c (.fn (.func 30) [] []) [t22] h (fun t23 h =>
  runD (makeMapD T_map_int_bool h.length) h fun t24 h =>
  runD (fieldAddrD T_api_Mem t1 2) h fun t25 h =>
  runD (fitD T_sl_api_Pending (loadD h t25)) h fun t26 h =>
  runD (lenD T_sl_api_Pending h t26) h fun t27 h =>
  joinW (fun (J2 : AV → AV → List AObj → Prop) =>
  promV [false] [(.int .i64 0)] h fun lv h => pmem_Check.L1 c J2 K (AV.norms h.length h lv) (normH h.length h) h.length (AV.norm h.length h t1) (AV.norm h.length h t23) (AV.norm h.length h t24) (AV.norm h.length h t26) (AV.norm h.length h t27))
  (fun t1 t3 h => runD (fieldAddrD T_api_Mem t1 0) h fun t75 h =>
  runD (fitD T_sl_int (loadD h t75)) h fun t76 h =>
  callW c (.fn (.func 31) [] []) [t3, t76] h (fun t77 h =>
  K (.ret t77) h)
  (fun v h => K (.pan v) h)))
  (fun v h => K (.pan v) h)))
def pmem_Flush.loops : Nat → LInfo
  | _ => ⟨[], [], [], [], []⟩
def pmem_Flush.H (c : Ctx) (t0 : AV) (t1 : AV) (h : List AObj) (K : AOut → List AObj → Prop) : Prop :=
  boxW T_api_Mem t0 h fun t2 h =>
  allocW T_api_Mem h fun t4 h =>
  runD (fitD T_api_Mem (loadD h t2)) h fun t8 h =>
  runD (fitD T_api_Mem (loadD h t2)) h fun t9 h =>
  callW c.noS (.fn (.func 33) [] []) [t9, t1] h (fun t11 h =>
  callW c.noS (.fn (.func 32) [] []) [t8, t11] h (fun t12 h =>
  runD (unD .not t12) h fun t13 h =>
  condW t13
  (runD (fitD T_api_Mem (loadD h t2)) h fun t14 h =>
    runH (storeH T_api_Mem h t4 t14) h fun _ h =>
    loadRes (fitD T_api_Mem (loadD h t4)) fun r0 => K (.ret (.tup [r0, (.int .i64 40)])) h)
  (runD (fieldAddrD T_api_Mem t2 2) h fun t15 h =>
  runD (fitD T_sl_api_Pending (loadD h t15)) h fun t16 h =>
  callW c (.fn (.func 34) [] []) [t16] h (fun t17 h =>
  allocW T_sl_api_Pending h fun t6 h =>
  runH (storeH T_sl_api_Pending h t6 t17) h fun _ h =>
  runD (fitD T_api_Mem (loadD h t2)) h fun t18 h =>
  callW c (.fn (.func 35) [] []) [t18, t1] h (fun t20 h =>
  joinW (fun (J1 : AV → AV → AV → List AObj → Prop) =>
  rangeX c.iterS t20 h
  (fun id r args h K => lpIs h id .ready r ∧ argX1 args fun t21 =>
  lpIs h id .ready r ∧
  runD (fitD T_sl_api_Pending (loadD (List.set h id (.lp .busy none r)) t6)) (List.set h id (.lp .busy none r)) fun t22 h =>
  runD (indexAddrD T_sl_api_Pending h t22 t21) h fun t24 h =>
  runD (fieldAddrD T_api_Pending t24 2) h fun t25 h =>
  runH (storeH T_bool h t25 (.bool true)) h fun _ h =>
  lpIs h id .busy r ∧ K (.ret (.bool true)) (List.set h id (.lp .ready none r)))
  (fun id r ao h => endX id r ao h
  (fun h => J1 t2 t4 t6 h)
  (fun h => loadRes (fitD T_api_Mem (loadD h t4)) fun r0 => K (.ret (.tup [r0, (.int .i64 0)])) h)
  (fun i h => exitW i 0 (J1 t2 t4 t6 h) (False))
  (fun l h => False)
  (fun v h => K (.pan v) h)))
  (fun t2 t4 t6 h => runD (fitD T_sl_api_Pending (loadD h t6)) h fun t26 h =>
  runD (fieldAddrD T_api_Mem t2 2) h fun t27 h =>
  runH (storeH T_sl_api_Pending h t27 t26) h fun _ h =>
  runD (fitD T_api_Mem (loadD h t2)) h fun t28 h =>
  runH (storeH T_api_Mem h t4 t28) h fun _ h =>
  loadRes (fitD T_api_Mem (loadD h t4)) fun r0 => K (.ret (.tup [r0, (.int .i64 0)])) h))
  (fun v h => K (.pan v) h))
  (fun v h => K (.pan v) h)))
  (fun _ _ => False))
  (fun _ _ => False)
def pmem_Fence.loops : Nat → LInfo
  | _ => ⟨[], [], [], [], []⟩
def pmem_Fence.H (c : Ctx) (t0 : AV) (h : List AObj) (K : AOut → List AObj → Prop) : Prop :=
  boxW T_api_Mem t0 h fun t1 h =>
  allocW T_api_Mem h fun t2 h =>
  runD (fitD T_api_Mem (loadD h t1)) h fun t4 h =>
  callW c (.fn (.func 11) [] []) [t4] h (fun t5 h =>
  runD (unD .not t5) h fun t6 h =>
  condW t6
  (runD (fitD T_api_Mem (loadD h t1)) h fun t7 h =>
    runH (storeH T_api_Mem h t2 t7) h fun _ h =>
    loadRes (fitD T_api_Mem (loadD h t2)) fun r0 => K (.ret (.tup [r0, (.int .i64 40)])) h)
  (runD (fitD T_api_Mem (loadD h t1)) h fun t8 h =>
  callW c (.fn (.func 36) [] []) [t8, (.fn (.func 37) [] [])] h (fun t9 h =>
  runH (storeH T_api_Mem h t2 t9) h fun _ h =>
  loadRes (fitD T_api_Mem (loadD h t2)) fun r0 => K (.ret (.tup [r0, (.int .i64 0)])) h)
  (fun v h => K (.pan v) h)))
  (fun v h => K (.pan v) h)
def pmem_Evict.loops : Nat → LInfo
  | _ => ⟨[], [], [], [], []⟩
def pmem_Evict.H (c : Ctx) (t0 : AV) (t1 : AV) (h : List AObj) (K : AOut → List AObj → Prop) : Prop :=
  boxW T_api_Mem t0 h fun t2 h =>
  boxW T_int t1 h fun t3 h =>
  allocW T_api_Mem h fun t4 h =>
  runD (fitD T_api_Mem (loadD h t2)) h fun t6 h =>
  runD (fitD T_api_Mem (loadD h t2)) h fun t7 h =>
  runD (fitD T_int (loadD h t3)) h fun t8 h =>
  callW c.noS (.fn (.func 33) [] []) [t7, t8] h (fun t9 h =>
  callW c.noS (.fn (.func 32) [] []) [t6, t9] h (fun t10 h =>
  runD (unD .not t10) h fun t11 h =>
  condW t11
  (runD (fitD T_api_Mem (loadD h t2)) h fun t12 h =>
    runH (storeH T_api_Mem h t4 t12) h fun _ h =>
    loadRes (fitD T_api_Mem (loadD h t4)) fun r0 => K (.ret (.tup [r0, (.int .i64 40)])) h)
  (runD (fitD T_api_Mem (loadD h t2)) h fun t13 h =>
  callW c (.fn (.func 36) [] []) [t13, (.fn (.func 38) [] [t3])] h (fun t15 h =>
  runH (storeH T_api_Mem h t4 t15) h fun _ h =>
  loadRes (fitD T_api_Mem (loadD h t4)) fun r0 => K (.ret (.tup [r0, (.int .i64 0)])) h)
  (fun v h => K (.pan v) h)))
  (fun _ _ => False))
  (fun _ _ => False)
def pmem_Crash.loops : Nat → LInfo
  | 5 => ⟨[15], [false], [2, 6, 13, 14], [], []⟩
  | _ => ⟨[], [], [], [], []⟩
def pmem_Crash.L1 (c : Ctx) (J1 : AV → AV → List AObj → Prop) (K : AOut → List AObj → Prop) (lv : List AV) (h0 : List AObj) (n0 : Nat) (c2 : AV) (c6 : AV) (c13 : AV) (c14 : AV) : Prop :=
  ∃ I : Nat → List AV → List AObj → Prop, (∃ n, I n lv h0) ∧ ∀ n h, ∀ t15, I n [t15] h →
    runD (binD T_int .lss t15 c14) h fun t16 h =>
    condW t16
    (runD (indexAddrD T_sl_int h c13 t15) h fun t18 h =>
    runD (fitD T_int (loadD h t18)) h fun t19 h =>
    runD (fitD T_map_int_int (loadD h c6)) h fun t20 h =>
    runH (mapSetH T_map_int_int h t20 t15 t19) h fun _ h =>
    runD (binD T_int .add t15 (.int .i64 1)) h fun t23 h =>
    (∃ m, m < n ∧ I m (AV.norms n0 h [t23]) (normH n0 h)) ∧ AV.norms n0 h [c2, c6, c13, c14] = [c2, c6, c13, c14])
    (J1 c2 c6 h)
def pmem_Crash.H (c : Ctx) (t0 : AV) (t1 : AV) (h : List AObj) (K : AOut → List AObj → Prop) : Prop :=
  boxW T_api_Mem t0 h fun t2 h =>
  runD (fitD T_api_Mem (loadD h t2)) h fun t9 h =>
  callW c (.fn (.func 11) [] []) [t9] h (fun t10 h =>
  runD (unD .not t10) h fun t11 h =>
  condW t11
  (K (.ret (.tup [(.sl true (.ints .i64 [])), (.int .i64 40)])) h)
  (runD (makeMapD T_map_int_int h.length) h fun t12 h =>
  allocW T_map_int_int h fun t6 h =>
  runH (storeH T_map_int_int h t6 t12) h fun _ h =>
  runD (lenD T_sl_int h t1) h fun t14 h =>
  joinW (fun (J1 : AV → AV → List AObj → Prop) =>
  promV [false] [(.int .i64 0)] h fun lv h => pmem_Crash.L1 c J1 K (AV.norms h.length h lv) (normH h.length h) h.length (AV.norm h.length h t2) (AV.norm h.length h t6) (AV.norm h.length h t1) (AV.norm h.length h t14))
  (fun t2 t6 h => runD (fitD T_api_Mem (loadD h t2)) h fun t24 h =>
  callW c (.fn (.func 36) [] []) [t24, (.fn (.func 39) [] [t6])] h (fun t26 h =>
  runD (fieldD T_api_Mem t26 1) h fun t27 h =>
  K (.ret (.tup [t27, (.int .i64 0)])) h)
  (fun v h => K (.pan v) h))))
  (fun v h => K (.pan v) h)
def pmem_Put.loops : Nat → LInfo
  | _ => ⟨[], [], [], [], []⟩
def pmem_Put.H (c : Ctx) (t0 : AV) (t1 : AV) (t2 : AV) (h : List AObj) (K : AOut → List AObj → Prop) : Prop :=
  boxW T_api_Mem t0 h fun t3 h =>
  allocW T_api_Mem h fun t6 h =>
  runD (fitD T_api_Mem (loadD h t3)) h fun t9 h =>
  callW c (.fn (.func 32) [] []) [t9, t1] h (fun t11 h =>
  runD (unD .not t11) h fun t12 h =>
  condW t12
  (runD (fitD T_api_Mem (loadD h t3)) h fun t13 h =>
    runH (storeH T_api_Mem h t6 t13) h fun _ h =>
    loadRes (fitD T_api_Mem (loadD h t6)) fun r0 => K (.ret (.tup [r0, (.int .i64 40)])) h)
  (runD (fieldAddrD T_api_Mem t3 0) h fun t14 h =>
  runD (fitD T_sl_int (loadD h t14)) h fun t15 h =>
  runD (lenD T_sl_int h t15) h fun t16 h =>
  runD (makeSliceD T_sl_int t16 t16 h.length) h fun t17 h =>
  runD (fieldAddrD T_api_Mem t3 0) h fun t19 h =>
  runD (fitD T_sl_int (loadD h t19)) h fun t20 h =>
  runM (copyH T_sl_int h t17 t20) h fun t21 h =>
  runD (indexAddrD T_sl_int h t17 t1) h fun t25 h =>
  runH (storeH T_int h t25 t2) h fun _ h =>
  runD (fieldAddrD T_api_Mem t3 1) h fun t27 h =>
  runD (fitD T_sl_int (loadD h t27)) h fun t28 h =>
  runD (fieldAddrD T_api_Mem t3 2) h fun t29 h =>
  runD (fitD T_sl_api_Pending (loadD h t29)) h fun t30 h =>
  callW c.noS (.fn (.func 40) [] []) [t30] h (fun t31 h =>
  runD (buildD T_api_Pending [(0, t1), (1, t2)]) h fun t34 h =>
  runD (buildSliceD T_sl_api_Pending 1 [(0, t34)] h.length) h fun t35 h =>
  runDM (appendD T_sl_api_Pending h t31 t35 h.length) (appendH T_sl_api_Pending h t31 t35) h fun t36 h =>
  runD (buildD T_api_Mem [(0, t17), (1, t28), (2, t36)]) h fun t37 h =>
  runH (storeH T_api_Mem h t6 t37) h fun _ h =>
  sepB t31 [t27] = true ∧ loadRes (fitD T_api_Mem (loadD h t6)) fun r0 => K (.ret (.tup [r0, (.int .i64 0)])) h)
  (fun _ _ => False)))
  (fun v h => K (.pan v) h)
def pmem_Sync.loops : Nat → LInfo
  | _ => ⟨[], [], [], [], []⟩
def pmem_Sync.H (c : Ctx) (t0 : AV) (h : List AObj) (K : AOut → List AObj → Prop) : Prop :=
  boxW T_api_Mem t0 h fun t1 h =>
  allocW T_api_Mem h fun t2 h =>
  runD (fitD T_api_Mem (loadD h t1)) h fun t4 h =>
  callW c (.fn (.func 11) [] []) [t4] h (fun t5 h =>
  runD (unD .not t5) h fun t6 h =>
  condW t6
  (runD (fitD T_api_Mem (loadD h t1)) h fun t7 h =>
    runH (storeH T_api_Mem h t2 t7) h fun _ h =>
    loadRes (fitD T_api_Mem (loadD h t2)) fun r0 => K (.ret (.tup [r0, (.int .i64 40)])) h)
  (runD (fitD T_api_Mem (loadD h t1)) h fun t8 h =>
  callW c (.fn (.func 36) [] []) [t8, (.fn (.func 44) [] [])] h (fun t9 h =>
  runH (storeH T_api_Mem h t2 t9) h fun _ h =>
  loadRes (fitD T_api_Mem (loadD h t2)) fun r0 => K (.ret (.tup [r0, (.int .i64 0)])) h)
  (fun v h => K (.pan v) h)))
  (fun v h => K (.pan v) h)
def pmem_New.loops : Nat → LInfo
  | _ => ⟨[], [], [], [], []⟩
def pmem_New.H (c : Ctx) (t0 : AV) (h : List AObj) (K : AOut → List AObj → Prop) : Prop :=
  allocW T_api_Mem h fun t2 h =>
  runD (lenD T_sl_int h t0) h fun t5 h =>
  callW c (.fn (.func 29) [] []) [t5] h (fun t6 h =>
  runD (unD .not t6) h fun t7 h =>
  condW t7
  (runD (buildD T_api_Mem []) h fun t8 h =>
    runH (storeH T_api_Mem h t2 t8) h fun _ h =>
    loadRes (fitD T_api_Mem (loadD h t2)) fun r0 => K (.ret (.tup [r0, (.int .i64 40)])) h)
  (callW c (.fn (.func 30) [] []) [t0] h (fun t10 h =>
  callW c (.fn (.func 30) [] []) [t0] h (fun t12 h =>
  runD (buildD T_api_Mem [(0, t10), (1, t12)]) h fun t13 h =>
  runH (storeH T_api_Mem h t2 t13) h fun _ h =>
  loadRes (fitD T_api_Mem (loadD h t2)) fun r0 => K (.ret (.tup [r0, (.int .i64 0)])) h)
  (fun v h => K (.pan v) h))
  (fun v h => K (.pan v) h)))
  (fun v h => K (.pan v) h)
def pmem_sized.loops : Nat → LInfo
  | 1 => ⟨[], [], [], [(3, none), (3, some [5, 8])], []⟩
  | _ => ⟨[], [], [], [], []⟩
def pmem_sized.H (c : Ctx) (t0 : AV) (h : List AObj) (K : AOut → List AObj → Prop) : Prop :=
  runD (binD T_int .leq t0 (.int .i64 4096)) h fun t4 h =>
  joinW (fun (J1 : AV → AV → List AObj → Prop) =>
  guardW t4 true
  (runD (binD T_int .rem t0 (.int .i64 8)) h fun t7 h =>
    runD (binD T_int .eql t7 (.int .i64 0)) h fun t8 h =>
    J1 (.bool true) t8 h)
  (J1 (.bool false) .und h))
  (fun t5 t8 h => runD (pickD t5 t8 (.bool false)) h fun t9 h =>
  K (.ret t9) h)
def pmem_place.loops : Nat → LInfo
  | 1 => ⟨[], [], [], [(3, none), (5, some [7, 12]), (2, none), (2, some [14, 16])], []⟩
  | _ => ⟨[], [], [], [], []⟩
def pmem_place.H (c : Ctx) (t0 : AV) (t1 : AV) (h : List AObj) (K : AOut → List AObj → Prop) : Prop :=
  boxW T_api_Mem t0 h fun t2 h =>
  runD (binD T_int .geq t1 (.int .i64 0)) h fun t6 h =>
  joinW (fun (J1 : AV → AV → List AObj → Prop) =>
  guardW t6 true
  (runD (fieldAddrD T_api_Mem t2 0) h fun t9 h =>
    runD (fitD T_sl_int (loadD h t9)) h fun t10 h =>
    runD (lenD T_sl_int h t10) h fun t11 h =>
    runD (binD T_int .lss t1 t11) h fun t12 h =>
    J1 (.bool true) t12 h)
  (J1 (.bool false) .und h))
  (fun t7 t12 h => runD (pickD t7 t12 (.bool false)) h fun t13 h =>
  joinW (fun (J2 : AV → AV → List AObj → Prop) =>
  guardW t13 true
  (runD (fitD T_api_Mem (loadD h t2)) h fun t15 h =>
    callW c (.fn (.func 11) [] []) [t15] h (fun t16 h =>
    J2 (.bool true) t16 h)
    (fun v h => K (.pan v) h))
  (J2 (.bool false) .und h))
  (fun t14 t16 h => runD (pickD t14 t16 (.bool false)) h fun t17 h =>
  K (.ret t17) h))
def pmem_first.loops : Nat → LInfo
  | 1 => ⟨[], [], [], [(3, none), (6, some [7, 13])], []⟩
  | _ => ⟨[], [], [], [], []⟩
def pmem_first.H (c : Ctx) (t0 : AV) (t1 : AV) (h : List AObj) (K : AOut → List AObj → Prop) : Prop :=
  boxW T_api_Mem t0 h fun t2 h =>
  runD (binD T_int .lss t1 (.int .i64 0)) h fun t6 h =>
  joinW (fun (J1 : AV → AV → List AObj → Prop) =>
  guardW t6 false
  (runD (fieldAddrD T_api_Mem t2 0) h fun t9 h =>
    runD (fitD T_sl_int (loadD h t9)) h fun t10 h =>
    runD (lenD T_sl_int h t10) h fun t11 h =>
    runD (binD T_int .quo t11 (.int .i64 8)) h fun t12 h =>
    runD (binD T_int .geq t1 t12) h fun t13 h =>
    J1 (.bool false) t13 h)
  (J1 (.bool true) .und h))
  (fun t7 t13 h => runD (pickD t7 (.bool true) t13) h fun t14 h =>
  condW t14
  (K (.ret (.int .i64 (-1))) h)
  (runD (binD T_int .mul t1 (.int .i64 8)) h fun t16 h =>
  K (.ret t16) h))
def pmem_of.loops : Nat → LInfo
  | _ => ⟨[], [], [], [], []⟩
def pmem_of.H (c : Ctx) (t0 : AV) (t1 : AV) (h : List AObj) (K : AOut → List AObj → Prop) : Prop :=
  boxW T_api_Mem t0 h fun t2 h =>
  boxW T_int t1 h fun t3 h =>
  K (.ret (.fn (.func 45) [] [t2, t3])) h
def pmem_keep.loops : Nat → LInfo
  | 3 => ⟨[17], [false], [1, 4, 5, 15, 16], [], [5]⟩
  | _ => ⟨[], [], [], [], []⟩
def pmem_keep.L1 (c : Ctx) (J1 : AV → AV → List AObj → Prop) (K : AOut → List AObj → Prop) (lv : List AV) (h0 : List AObj) (n0 : Nat) (c1 : AV) (c4 : AV) (c5 : AV) (c15 : AV) (c16 : AV) : Prop :=
  ∃ I : Nat → List AV → List AObj → Prop, (∃ n, I n lv h0) ∧ ∀ n h, ∀ t17, I n [t17] h →
    runD (binD T_int .lss t17 c16) h fun t18 h =>
    condW t18
    (joinW (fun (J2 : List AObj → Prop) =>
    runD (indexAddrD T_sl_api_Pending h c15 t17) h fun t19 h =>
    runD (fitD T_api_Pending (loadD h t19)) h fun t20 h =>
    allocW T_api_Pending h fun t7 h =>
    runH (storeH T_api_Pending h t7 t20) h fun _ h =>
    runD (fitD T_api_Pending (loadD h t7)) h fun t22 h =>
    callW c c1 [t22] h (fun t23 h =>
    condW t23
    (runD (fieldAddrD T_api_Mem c5 1) h fun t24 h =>
      runD (fitD T_sl_int (loadD h t24)) h fun t25 h =>
      runD (fieldAddrD T_api_Pending t7 0) h fun t26 h =>
      runD (fitD T_int (loadD h t26)) h fun t27 h =>
      runD (fieldAddrD T_api_Pending t7 1) h fun t28 h =>
      runD (fitD T_int (loadD h t28)) h fun t29 h =>
      runD (indexAddrD T_sl_int h t25 t27) h fun t30 h =>
      runH (storeH T_int h t30 t29) h fun _ h =>
      J2 h)
    (runD (fieldAddrD T_api_Mem c5 2) h fun t31 h =>
    runD (fitD T_sl_api_Pending (loadD h t31)) h fun t32 h =>
    runD (fitD T_api_Pending (loadD h t7)) h fun t33 h =>
    runD (buildSliceD T_sl_api_Pending 1 [(0, t33)] h.length) h fun t34 h =>
    runDM (appendD T_sl_api_Pending h t32 t34 h.length) (appendH T_sl_api_Pending h t32 t34) h fun t35 h =>
    runD (fieldAddrD T_api_Mem c5 2) h fun t36 h =>
    runH (storeH T_sl_api_Pending h t36 t35) h fun _ h =>
    J2 h))
    (fun v h => K (.pan v) h))
    (fun h => runD (binD T_int .add t17 (.int .i64 1)) h fun t37 h =>
    (∃ m, m < n ∧ I m (AV.norms n0 h [t37]) (normH n0 h)) ∧ AV.norms n0 h [c1, c4, c5, c15, c16] = [c1, c4, c5, c15, c16]))
    (J1 c4 c5 h)
def pmem_keep.H (c : Ctx) (t0 : AV) (t1 : AV) (h : List AObj) (K : AOut → List AObj → Prop) : Prop :=
  boxW T_api_Mem t0 h fun t2 h =>
  allocW T_api_Mem h fun t4 h =>
  runD (fieldAddrD T_api_Mem t2 0) h fun t8 h =>
  runD (fitD T_sl_int (loadD h t8)) h fun t9 h =>
  runD (fieldAddrD T_api_Mem t2 1) h fun t10 h =>
  runD (fitD T_sl_int (loadD h t10)) h fun t11 h =>
  callW c.noS (.fn (.func 30) [] []) [t11] h (fun t12 h =>
  runD (buildD T_api_Mem [(0, t9), (1, t12)]) h fun t13 h =>
  allocW T_api_Mem h fun t5 h =>
  runH (storeH T_api_Mem h t5 t13) h fun _ h =>
  runD (fieldAddrD T_api_Mem t2 2) h fun t14 h =>
  runD (fitD T_sl_api_Pending (loadD h t14)) h fun t15 h =>
  runD (lenD T_sl_api_Pending h t15) h fun t16 h =>
  joinW (fun (J1 : AV → AV → List AObj → Prop) =>
  promV [false] [(.int .i64 0)] (boxH [t5] h) fun lv h => pmem_keep.L1 c J1 K (AV.norms h.length h lv) (normH h.length h) h.length (AV.norm h.length h t1) (AV.norm h.length h t4) (AV.norm h.length h t5) (AV.norm h.length h t15) (AV.norm h.length h t16))
  (fun t4 t5 h => runD (fitD T_api_Mem (loadD h t5)) h fun t38 h =>
  runH (storeH T_api_Mem h t4 t38) h fun _ h =>
  loadRes (fitD T_api_Mem (loadD h t4)) fun r0 => K (.ret r0) h))
  (fun _ _ => False)
def pmem_Fence_1.loops : Nat → LInfo
  | _ => ⟨[], [], [], [], []⟩
def pmem_Fence_1.H (c : Ctx) (t0 : AV) (h : List AObj) (K : AOut → List AObj → Prop) : Prop :=
  boxW T_api_Pending t0 h fun t1 h =>
  runD (fieldAddrD T_api_Pending t1 2) h fun t3 h =>
  runD (fitD T_bool (loadD h t3)) h fun t4 h =>
  K (.ret t4) h
def pmem_Evict_1.loops : Nat → LInfo
  | _ => ⟨[], [], [], [], []⟩
def pmem_Evict_1.H (c : Ctx) (t0 : AV) (t1 : AV) (h : List AObj) (K : AOut → List AObj → Prop) : Prop :=
  boxW T_api_Pending t0 h fun t2 h =>
  runD (fieldAddrD T_api_Pending t2 0) h fun t4 h =>
  runD (fitD T_int (loadD h t4)) h fun t5 h =>
  runD (binD T_int .quo t5 (.int .i64 8)) h fun t6 h =>
  runD (fitD T_int (loadD h t1)) h fun t7 h =>
  runD (binD T_int .eql t6 t7) h fun t8 h =>
  K (.ret t8) h
def pmem_Crash_1.loops : Nat → LInfo
  | _ => ⟨[], [], [], [], []⟩
def pmem_Crash_1.H (c : Ctx) (t0 : AV) (t1 : AV) (h : List AObj) (K : AOut → List AObj → Prop) : Prop :=
  boxW T_api_Pending t0 h fun t2 h =>
  runD (fitD T_map_int_int (loadD h t1)) h fun t5 h =>
  runD (fieldAddrD T_api_Pending t2 0) h fun t6 h =>
  runD (fitD T_int (loadD h t6)) h fun t7 h =>
  runD (binD T_int .quo t7 (.int .i64 8)) h fun t8 h =>
  runD (lookupD T_map_int_int h t5 t8) h fun t9 h =>
  runD (fitD T_map_int_int (loadD h t1)) h fun t10 h =>
  runD (fieldAddrD T_api_Pending t2 0) h fun t11 h =>
  runD (fitD T_int (loadD h t11)) h fun t12 h =>
  runD (binD T_int .quo t12 (.int .i64 8)) h fun t13 h =>
  runD (maxD t9 (.int .i64 1)) h fun t15 h =>
  runD (binD T_int .sub t15 (.int .i64 1)) h fun t16 h =>
  runH (mapSetH T_map_int_int h t10 t13 t16) h fun _ h =>
  runD (binD T_int .gtr t9 (.int .i64 0)) h fun t18 h =>
  K (.ret t18) h
def pmem_Sync_1.loops : Nat → LInfo
  | _ => ⟨[], [], [], [], []⟩
def pmem_Sync_1.H (c : Ctx) (t0 : AV) (h : List AObj) (K : AOut → List AObj → Prop) : Prop :=
  boxW T_api_Pending t0 h fun t1 h =>
  K (.ret (.bool true)) h
def pmem_of_1.loops : Nat → LInfo
  | 1 => ⟨[9], [false], [0, 2, 7, 8], [], []⟩
  | 3 => ⟨[], [], [], [(6, none), (4, some [19, 23])], []⟩
  | _ => ⟨[], [], [], [], []⟩
def pmem_of_1.L1 (c : Ctx) (J1 : List AObj → Prop) (K : AOut → List AObj → Prop) (lv : List AV) (h0 : List AObj) (n0 : Nat) (c0 : AV) (c2 : AV) (c7 : AV) (c8 : AV) : Prop :=
  ∃ I : Nat → List AV → List AObj → Prop, (∃ n, I n lv h0) ∧ ∀ n h, ∀ t9, I n [t9] h →
    runD (binD T_int .lss t9 c8) h fun t10 h =>
    condW t10
    (runD (indexAddrD T_sl_api_Pending h c7 t9) h fun t12 h =>
    runD (fitD T_api_Pending (loadD h t12)) h fun t13 h =>
    allocW T_api_Pending h fun t5 h =>
    runH (storeH T_api_Pending h t5 t13) h fun _ h =>
    runD (fieldAddrD T_api_Pending t5 0) h fun t14 h =>
    runD (fitD T_int (loadD h t14)) h fun t15 h =>
    runD (binD T_int .quo t15 (.int .i64 8)) h fun t16 h =>
    runD (fitD T_int (loadD h c2)) h fun t17 h =>
    runD (binD T_int .eql t16 t17) h fun t18 h =>
    joinW (fun (J2 : AV → AV → List AObj → Prop) =>
    guardW t18 true
    (callW c c0 [t9] h (fun t22 h =>
      runD (unD .not t22) h fun t23 h =>
      J2 (.bool true) t23 h)
      (fun v h => K (.pan v) h))
    (J2 (.bool false) .und h))
    (fun t19 t23 h => runD (pickD t19 t23 (.bool false)) h fun t24 h =>
    condW t24
    (K (.ret (.tup [])) h)
    (runD (binD T_int .add t9 (.int .i64 1)) h fun t25 h =>
    (∃ m, m < n ∧ I m (AV.norms n0 h [t25]) (normH n0 h)) ∧ AV.norms n0 h [c0, c2, c7, c8] = [c0, c2, c7, c8])))
    (J1 h)
def pmem_of_1.H (c : Ctx) (t0 : AV) (t1 : AV) (t2 : AV) (h : List AObj) (K : AOut → List AObj → Prop) : Prop :=
  runD (fieldAddrD T_api_Mem t1 2) h fun t6 h =>
  runD (fitD T_sl_api_Pending (loadD h t6)) h fun t7 h =>
  runD (lenD T_sl_api_Pending h t7) h fun t8 h =>
  joinW (fun (J1 : List AObj → Prop) =>
  promV [false] [(.int .i64 0)] h fun lv h => pmem_of_1.L1 c J1 K (AV.norms h.length h lv) (normH h.length h) h.length (AV.norm h.length h t0) (AV.norm h.length h t2) (AV.norm h.length h t7) (AV.norm h.length h t8))
  (fun h => K (.ret (.tup [])) h)
theorem pmem_Check.eq (F : List (FuncId × Contract)) (S : List (FuncId × Con)) (t0 : AV) (h : List AObj) (K : AOut → List AObj → Prop) : funW (ctx F S pmem_Check.loops) Try.f11 [t0] h K = pmem_Check.H (ctx F S pmem_Check.loops) t0 h K := by kernel_rfl
theorem pmem_Flush.eq (F : List (FuncId × Contract)) (S : List (FuncId × Con)) (Is : List (FuncId × (Con → Con))) (t0 t1 : AV) (h : List AObj) (K : AOut → List AObj → Prop) : funW (ctxI F S Is pmem_Flush.loops) Try.f12 [t0, t1] h K = pmem_Flush.H (ctxI F S Is pmem_Flush.loops) t0 t1 h K := by kernel_rfl
theorem pmem_Fence.eq (F : List (FuncId × Contract)) (S : List (FuncId × Con)) (t0 : AV) (h : List AObj) (K : AOut → List AObj → Prop) : funW (ctx F S pmem_Fence.loops) Try.f13 [t0] h K = pmem_Fence.H (ctx F S pmem_Fence.loops) t0 h K := by kernel_rfl
theorem pmem_Evict.eq (F : List (FuncId × Contract)) (S : List (FuncId × Con)) (t0 t1 : AV) (h : List AObj) (K : AOut → List AObj → Prop) : funW (ctx F S pmem_Evict.loops) Try.f14 [t0, t1] h K = pmem_Evict.H (ctx F S pmem_Evict.loops) t0 t1 h K := by kernel_rfl
theorem pmem_Crash.eq (F : List (FuncId × Contract)) (S : List (FuncId × Con)) (t0 t1 : AV) (h : List AObj) (K : AOut → List AObj → Prop) : funW (ctx F S pmem_Crash.loops) Try.f15 [t0, t1] h K = pmem_Crash.H (ctx F S pmem_Crash.loops) t0 t1 h K := by kernel_rfl
theorem pmem_Put.eq (F : List (FuncId × Contract)) (S : List (FuncId × Con)) (t0 t1 t2 : AV) (h : List AObj) (K : AOut → List AObj → Prop) : funW (ctx F S pmem_Put.loops) Try.f18 [t0, t1, t2] h K = pmem_Put.H (ctx F S pmem_Put.loops) t0 t1 t2 h K := by kernel_rfl
theorem pmem_Sync.eq (F : List (FuncId × Contract)) (S : List (FuncId × Con)) (t0 : AV) (h : List AObj) (K : AOut → List AObj → Prop) : funW (ctx F S pmem_Sync.loops) Try.f23 [t0] h K = pmem_Sync.H (ctx F S pmem_Sync.loops) t0 h K := by kernel_rfl
theorem pmem_New.eq (F : List (FuncId × Contract)) (S : List (FuncId × Con)) (t0 : AV) (h : List AObj) (K : AOut → List AObj → Prop) : funW (ctx F S pmem_New.loops) Try.f26 [t0] h K = pmem_New.H (ctx F S pmem_New.loops) t0 h K := by kernel_rfl
theorem pmem_sized.eq (F : List (FuncId × Contract)) (S : List (FuncId × Con)) (t0 : AV) (h : List AObj) (K : AOut → List AObj → Prop) : funW (ctx F S pmem_sized.loops) Try.f29 [t0] h K = pmem_sized.H (ctx F S pmem_sized.loops) t0 h K := by kernel_rfl
theorem pmem_place.eq (F : List (FuncId × Contract)) (S : List (FuncId × Con)) (t0 t1 : AV) (h : List AObj) (K : AOut → List AObj → Prop) : funW (ctx F S pmem_place.loops) Try.f32 [t0, t1] h K = pmem_place.H (ctx F S pmem_place.loops) t0 t1 h K := by kernel_rfl
theorem pmem_first.eq (F : List (FuncId × Contract)) (S : List (FuncId × Con)) (t0 t1 : AV) (h : List AObj) (K : AOut → List AObj → Prop) : funW (ctx F S pmem_first.loops) Try.f33 [t0, t1] h K = pmem_first.H (ctx F S pmem_first.loops) t0 t1 h K := by kernel_rfl
theorem pmem_of.eq (F : List (FuncId × Contract)) (S : List (FuncId × Con)) (t0 t1 : AV) (h : List AObj) (K : AOut → List AObj → Prop) : funW (ctx F S pmem_of.loops) Try.f35 [t0, t1] h K = pmem_of.H (ctx F S pmem_of.loops) t0 t1 h K := by kernel_rfl
theorem pmem_keep.eq (F : List (FuncId × Contract)) (S : List (FuncId × Con)) (t0 t1 : AV) (h : List AObj) (K : AOut → List AObj → Prop) : funW (ctx F S pmem_keep.loops) Try.f36 [t0, t1] h K = pmem_keep.H (ctx F S pmem_keep.loops) t0 t1 h K := by kernel_rfl
theorem pmem_Fence_1.eq (F : List (FuncId × Contract)) (S : List (FuncId × Con)) (t0 : AV) (h : List AObj) (K : AOut → List AObj → Prop) : funW (ctx F S pmem_Fence_1.loops) Try.f37 [t0] h K = pmem_Fence_1.H (ctx F S pmem_Fence_1.loops) t0 h K := by kernel_rfl
theorem pmem_Evict_1.eq (F : List (FuncId × Contract)) (S : List (FuncId × Con)) (t0 t1 : AV) (h : List AObj) (K : AOut → List AObj → Prop) : funW (ctx F S pmem_Evict_1.loops) Try.f38 [t0, t1] h K = pmem_Evict_1.H (ctx F S pmem_Evict_1.loops) t0 t1 h K := by kernel_rfl
theorem pmem_Crash_1.eq (F : List (FuncId × Contract)) (S : List (FuncId × Con)) (t0 t1 : AV) (h : List AObj) (K : AOut → List AObj → Prop) : funW (ctx F S pmem_Crash_1.loops) Try.f39 [t0, t1] h K = pmem_Crash_1.H (ctx F S pmem_Crash_1.loops) t0 t1 h K := by kernel_rfl
theorem pmem_Sync_1.eq (F : List (FuncId × Contract)) (S : List (FuncId × Con)) (t0 : AV) (h : List AObj) (K : AOut → List AObj → Prop) : funW (ctx F S pmem_Sync_1.loops) Try.f44 [t0] h K = pmem_Sync_1.H (ctx F S pmem_Sync_1.loops) t0 h K := by kernel_rfl
theorem pmem_of_1.eq (F : List (FuncId × Contract)) (S : List (FuncId × Con)) (l : Nat) (Y : Con) (t0 t1 t2 : AV) (h : List AObj) (K : AOut → List AObj → Prop) : funW ((ctx F S pmem_of_1.loops).withY l Y) Try.f45 [t0, t1, t2] h K = pmem_of_1.H ((ctx F S pmem_of_1.loops).withY l Y) t0 t1 t2 h K := by kernel_rfl
theorem pmem_Check.at : Try.prog.funcs[11]? = some Try.f11 := by kernel_rfl
theorem pmem_Check.nm : (Try.f11.name == "runtime.NumGoroutine") = false := by kernel_rfl
theorem pmem_Check.bd : Try.f11.body.isNone = false := by kernel_rfl
theorem pmem_Flush.at : Try.prog.funcs[12]? = some Try.f12 := by kernel_rfl
theorem pmem_Flush.nm : (Try.f12.name == "runtime.NumGoroutine") = false := by kernel_rfl
theorem pmem_Flush.bd : Try.f12.body.isNone = false := by kernel_rfl
theorem pmem_Fence.at : Try.prog.funcs[13]? = some Try.f13 := by kernel_rfl
theorem pmem_Fence.nm : (Try.f13.name == "runtime.NumGoroutine") = false := by kernel_rfl
theorem pmem_Fence.bd : Try.f13.body.isNone = false := by kernel_rfl
theorem pmem_Evict.at : Try.prog.funcs[14]? = some Try.f14 := by kernel_rfl
theorem pmem_Evict.nm : (Try.f14.name == "runtime.NumGoroutine") = false := by kernel_rfl
theorem pmem_Evict.bd : Try.f14.body.isNone = false := by kernel_rfl
theorem pmem_Crash.at : Try.prog.funcs[15]? = some Try.f15 := by kernel_rfl
theorem pmem_Crash.nm : (Try.f15.name == "runtime.NumGoroutine") = false := by kernel_rfl
theorem pmem_Crash.bd : Try.f15.body.isNone = false := by kernel_rfl
theorem pmem_Put.at : Try.prog.funcs[18]? = some Try.f18 := by kernel_rfl
theorem pmem_Put.nm : (Try.f18.name == "runtime.NumGoroutine") = false := by kernel_rfl
theorem pmem_Put.bd : Try.f18.body.isNone = false := by kernel_rfl
theorem pmem_Sync.at : Try.prog.funcs[23]? = some Try.f23 := by kernel_rfl
theorem pmem_Sync.nm : (Try.f23.name == "runtime.NumGoroutine") = false := by kernel_rfl
theorem pmem_Sync.bd : Try.f23.body.isNone = false := by kernel_rfl
theorem pmem_New.at : Try.prog.funcs[26]? = some Try.f26 := by kernel_rfl
theorem pmem_New.nm : (Try.f26.name == "runtime.NumGoroutine") = false := by kernel_rfl
theorem pmem_New.bd : Try.f26.body.isNone = false := by kernel_rfl
theorem pmem_sized.at : Try.prog.funcs[29]? = some Try.f29 := by kernel_rfl
theorem pmem_sized.nm : (Try.f29.name == "runtime.NumGoroutine") = false := by kernel_rfl
theorem pmem_sized.bd : Try.f29.body.isNone = false := by kernel_rfl
theorem pmem_place.at : Try.prog.funcs[32]? = some Try.f32 := by kernel_rfl
theorem pmem_place.nm : (Try.f32.name == "runtime.NumGoroutine") = false := by kernel_rfl
theorem pmem_place.bd : Try.f32.body.isNone = false := by kernel_rfl
theorem pmem_first.at : Try.prog.funcs[33]? = some Try.f33 := by kernel_rfl
theorem pmem_first.nm : (Try.f33.name == "runtime.NumGoroutine") = false := by kernel_rfl
theorem pmem_first.bd : Try.f33.body.isNone = false := by kernel_rfl
theorem pmem_of.at : Try.prog.funcs[35]? = some Try.f35 := by kernel_rfl
theorem pmem_of.nm : (Try.f35.name == "runtime.NumGoroutine") = false := by kernel_rfl
theorem pmem_of.bd : Try.f35.body.isNone = false := by kernel_rfl
theorem pmem_keep.at : Try.prog.funcs[36]? = some Try.f36 := by kernel_rfl
theorem pmem_keep.nm : (Try.f36.name == "runtime.NumGoroutine") = false := by kernel_rfl
theorem pmem_keep.bd : Try.f36.body.isNone = false := by kernel_rfl
theorem pmem_Fence_1.at : Try.prog.funcs[37]? = some Try.f37 := by kernel_rfl
theorem pmem_Fence_1.nm : (Try.f37.name == "runtime.NumGoroutine") = false := by kernel_rfl
theorem pmem_Fence_1.bd : Try.f37.body.isNone = false := by kernel_rfl
theorem pmem_Evict_1.at : Try.prog.funcs[38]? = some Try.f38 := by kernel_rfl
theorem pmem_Evict_1.nm : (Try.f38.name == "runtime.NumGoroutine") = false := by kernel_rfl
theorem pmem_Evict_1.bd : Try.f38.body.isNone = false := by kernel_rfl
theorem pmem_Crash_1.at : Try.prog.funcs[39]? = some Try.f39 := by kernel_rfl
theorem pmem_Crash_1.nm : (Try.f39.name == "runtime.NumGoroutine") = false := by kernel_rfl
theorem pmem_Crash_1.bd : Try.f39.body.isNone = false := by kernel_rfl
theorem pmem_Sync_1.at : Try.prog.funcs[44]? = some Try.f44 := by kernel_rfl
theorem pmem_Sync_1.nm : (Try.f44.name == "runtime.NumGoroutine") = false := by kernel_rfl
theorem pmem_Sync_1.bd : Try.f44.body.isNone = false := by kernel_rfl
theorem pmem_of_1.at : Try.prog.funcs[45]? = some Try.f45 := by kernel_rfl
theorem pmem_of_1.nm : (Try.f45.name == "runtime.NumGoroutine") = false := by kernel_rfl
theorem pmem_of_1.bd : Try.f45.body.isNone = false := by kernel_rfl
end Lam
namespace Lam
open Go Go.Proofs
set_option linter.unusedVariables false
def slices_Clone_sl_int_int.loops : Nat → LInfo
  | _ => ⟨[], [], [], [], []⟩
def slices_Clone_sl_int_int.H (c : Ctx) (t0 : AV) (h : List AObj) (K : AOut → List AObj → Prop) : Prop :=
  nilEqO (AV.len T_sl_int h t0) h fun t4 h =>
  condW t4
  (K (.ret (.sl true (.ints .i64 []))) h)
  (runD (buildSliceD T_sl_int 0 [] h.length) h fun t5 h =>
  runDM (appendD T_sl_int h t5 t0 h.length) (appendH T_sl_int h t5 t0) h fun t7 h =>
  K (.ret t7) h)
def slices_Equal_sl_int_int.loops : Nat → LInfo
  | 4 => ⟨[13], [false], [0, 1, 12], [], []⟩
  | _ => ⟨[], [], [], [], []⟩
def slices_Equal_sl_int_int.L1 (c : Ctx) (J1 : List AObj → Prop) (K : AOut → List AObj → Prop) (lv : List AV) (h0 : List AObj) (n0 : Nat) (c0 : AV) (c1 : AV) (c12 : AV) : Prop :=
  ∃ I : Nat → List AV → List AObj → Prop, (∃ n, I n lv h0) ∧ ∀ n h, ∀ t13, I n [t13] h →
    runD (binD T_int .lss t13 c12) h fun t14 h =>
    condW t14
    (runD (indexAddrD T_sl_int h c0 t13) h fun t18 h =>
    runD (fitD T_int (loadD h t18)) h fun t19 h =>
    runD (indexAddrD T_sl_int h c1 t13) h fun t22 h =>
    runD (fitD T_int (loadD h t22)) h fun t23 h =>
    runD (binD T_int .neq t19 t23) h fun t24 h =>
    condW t24
    (K (.ret (.bool false)) h)
    (runD (binD T_int .add t13 (.int .i64 1)) h fun t25 h =>
    (∃ m, m < n ∧ I m (AV.norms n0 h [t25]) (normH n0 h)) ∧ AV.norms n0 h [c0, c1, c12] = [c0, c1, c12]))
    (J1 h)
def slices_Equal_sl_int_int.H (c : Ctx) (t0 : AV) (t1 : AV) (h : List AObj) (K : AOut → List AObj → Prop) : Prop :=
  runD (lenD T_sl_int h t0) h fun t7 h =>
  runD (lenD T_sl_int h t1) h fun t9 h =>
  runD (binD T_int .neq t7 t9) h fun t10 h =>
  condW t10
  (K (.ret (.bool false)) h)
  (runD (lenD T_sl_int h t0) h fun t12 h =>
  joinW (fun (J1 : List AObj → Prop) =>
  promV [false] [(.int .i64 0)] h fun lv h => slices_Equal_sl_int_int.L1 c J1 K (AV.norms h.length h lv) (normH h.length h) h.length (AV.norm h.length h t0) (AV.norm h.length h t1) (AV.norm h.length h t12))
  (fun h => K (.ret (.bool true)) h))
def slices_Clone_sl_api_Pending_api_Pending.loops : Nat → LInfo
  | _ => ⟨[], [], [], [], []⟩
def slices_Clone_sl_api_Pending_api_Pending.H (c : Ctx) (t0 : AV) (h : List AObj) (K : AOut → List AObj → Prop) : Prop :=
  nilEqO (AV.len T_sl_api_Pending h t0) h fun t4 h =>
  condW t4
  (K (.ret (.sl true (.pends []))) h)
  (runD (buildSliceD T_sl_api_Pending 0 [] h.length) h fun t5 h =>
  runDM (appendD T_sl_api_Pending h t5 t0 h.length) (appendH T_sl_api_Pending h t5 t0) h fun t7 h =>
  K (.ret t7) h)
def slices_Clip_sl_api_Pending_api_Pending.loops : Nat → LInfo
  | _ => ⟨[], [], [], [], []⟩
def slices_Clip_sl_api_Pending_api_Pending.H (c : Ctx) (t0 : AV) (h : List AObj) (K : AOut → List AObj → Prop) : Prop :=
  runD (lenD T_sl_api_Pending h t0) h fun t5 h =>
  runD (lenD T_sl_api_Pending h t0) h fun t7 h =>
  runD (sliceD T_sl_api_Pending h t0 none (some t5) (some t7)) h fun t8 h =>
  K (.ret t8) h
theorem slices_Clone_sl_int_int.eq (F : List (FuncId × Contract)) (S : List (FuncId × Con)) (t0 : AV) (h : List AObj) (K : AOut → List AObj → Prop) : funW (ctx F S slices_Clone_sl_int_int.loops) Try.f30 [t0] h K = slices_Clone_sl_int_int.H (ctx F S slices_Clone_sl_int_int.loops) t0 h K := by kernel_rfl
theorem slices_Equal_sl_int_int.eq (F : List (FuncId × Contract)) (S : List (FuncId × Con)) (t0 t1 : AV) (h : List AObj) (K : AOut → List AObj → Prop) : funW (ctx F S slices_Equal_sl_int_int.loops) Try.f31 [t0, t1] h K = slices_Equal_sl_int_int.H (ctx F S slices_Equal_sl_int_int.loops) t0 t1 h K := by kernel_rfl
theorem slices_Clone_sl_api_Pending_api_Pending.eq (F : List (FuncId × Contract)) (S : List (FuncId × Con)) (t0 : AV) (h : List AObj) (K : AOut → List AObj → Prop) : funW (ctx F S slices_Clone_sl_api_Pending_api_Pending.loops) Try.f34 [t0] h K = slices_Clone_sl_api_Pending_api_Pending.H (ctx F S slices_Clone_sl_api_Pending_api_Pending.loops) t0 h K := by kernel_rfl
theorem slices_Clip_sl_api_Pending_api_Pending.eq (F : List (FuncId × Contract)) (S : List (FuncId × Con)) (t0 : AV) (h : List AObj) (K : AOut → List AObj → Prop) : funW (ctx F S slices_Clip_sl_api_Pending_api_Pending.loops) Try.f40 [t0] h K = slices_Clip_sl_api_Pending_api_Pending.H (ctx F S slices_Clip_sl_api_Pending_api_Pending.loops) t0 h K := by kernel_rfl
theorem slices_Clone_sl_int_int.at : Try.prog.funcs[30]? = some Try.f30 := by kernel_rfl
theorem slices_Clone_sl_int_int.nm : (Try.f30.name == "runtime.NumGoroutine") = false := by kernel_rfl
theorem slices_Clone_sl_int_int.bd : Try.f30.body.isNone = false := by kernel_rfl
theorem slices_Equal_sl_int_int.at : Try.prog.funcs[31]? = some Try.f31 := by kernel_rfl
theorem slices_Equal_sl_int_int.nm : (Try.f31.name == "runtime.NumGoroutine") = false := by kernel_rfl
theorem slices_Equal_sl_int_int.bd : Try.f31.body.isNone = false := by kernel_rfl
theorem slices_Clone_sl_api_Pending_api_Pending.at : Try.prog.funcs[34]? = some Try.f34 := by kernel_rfl
theorem slices_Clone_sl_api_Pending_api_Pending.nm : (Try.f34.name == "runtime.NumGoroutine") = false := by kernel_rfl
theorem slices_Clone_sl_api_Pending_api_Pending.bd : Try.f34.body.isNone = false := by kernel_rfl
theorem slices_Clip_sl_api_Pending_api_Pending.at : Try.prog.funcs[40]? = some Try.f40 := by kernel_rfl
theorem slices_Clip_sl_api_Pending_api_Pending.nm : (Try.f40.name == "runtime.NumGoroutine") = false := by kernel_rfl
theorem slices_Clip_sl_api_Pending_api_Pending.bd : Try.f40.body.isNone = false := by kernel_rfl
end Lam
namespace Lam
open Go Go.Proofs
set_option linter.unusedVariables false
set_option linter.unnecessarySimpa false
set_option linter.unusedSimpArgs false
def pmem_sized.C : Contract
  | [.int .i64 n] => some (false, pD True (.bool (szB n)))
  | _ => none
set_option maxRecDepth 20000 in
theorem pmem_sized.spec : FSpec Try.prog 29 pmem_sized.C := by
  refine FSpec.of (ctx_ok (F := []) (S := []) (by simp) (by simp) pmem_sized.loops) pmem_sized.at pmem_sized.nm pmem_sized.bd ?_
  intro vs b S v news e hS
  unfold pmem_sized.C at e
  split at e
  rotate_left
  · cases e
  cases e
  rw [pmem_sized.eq]
  unfold pmem_sized.H
  simp (maxSteps := 4000000) only [go_sem, Nat.reduceEqDiff, Nat.reduceLT, Nat.reduceAdd, Nat.reduceSub, Nat.reduceLeDiff, List.reduceReplicate, Int.reduceToNat]
  exact ⟨fun _ => by decide, post_val rfl rfl⟩

def slices_Clone_sl_int_int.C : Contract
  | [.sl _ (.ints .i64 l)] => some (true, some (roomy l.length, .sref false 0 0 0 l.length, [.row .own 0 (.ints .i64 l)]))
  | _ => none
set_option maxRecDepth 20000 in
theorem slices_Clone_sl_int_int.spec : FSpec Try.prog 30 slices_Clone_sl_int_int.C := by
  refine FSpec.of (ctx_ok (F := []) (S := []) (by simp) (by simp) slices_Clone_sl_int_int.loops) slices_Clone_sl_int_int.at slices_Clone_sl_int_int.nm slices_Clone_sl_int_int.bd ?_
  intro vs b S v news e hS
  unfold slices_Clone_sl_int_int.C at e
  split at e
  rotate_left
  · cases e
  cases e
  rw [slices_Clone_sl_int_int.eq]
  unfold slices_Clone_sl_int_int.H
  simp (maxSteps := 4000000) only [go_sem, Nat.reduceEqDiff, Nat.reduceLT, Nat.reduceAdd, Nat.reduceSub, Nat.reduceLeDiff, List.reduceReplicate, Int.reduceToNat]
  rename_i l
  intro b hb
  refine ⟨fun h => ?_, fun h => ⟨hS, post_row rfl (by simp)⟩⟩
  have : l = [] := List.eq_nil_of_length_eq_zero (hb h)
  subst this
  exact post_nil rfl
def slices_Clone_sl_api_Pending_api_Pending.C : Contract
  | [.sl _ (.pends l)] => some (true, some (roomy l.length, .sref false 0 0 0 l.length, [.row .own 0 (.pends l)]))
  | _ => none
set_option maxRecDepth 20000 in
theorem slices_Clone_sl_api_Pending_api_Pending.spec : FSpec Try.prog 34 slices_Clone_sl_api_Pending_api_Pending.C := by
  refine FSpec.of (ctx_ok (F := []) (S := []) (by simp) (by simp) slices_Clone_sl_api_Pending_api_Pending.loops) slices_Clone_sl_api_Pending_api_Pending.at slices_Clone_sl_api_Pending_api_Pending.nm slices_Clone_sl_api_Pending_api_Pending.bd ?_
  intro vs b S v news e hS
  unfold slices_Clone_sl_api_Pending_api_Pending.C at e
  split at e
  rotate_left
  · cases e
  cases e
  rw [slices_Clone_sl_api_Pending_api_Pending.eq]
  unfold slices_Clone_sl_api_Pending_api_Pending.H
  simp (maxSteps := 4000000) only [go_sem, Nat.reduceEqDiff, Nat.reduceLT, Nat.reduceAdd, Nat.reduceSub, Nat.reduceLeDiff, List.reduceReplicate, Int.reduceToNat]
  rename_i l
  intro b hb
  refine ⟨fun h => ?_, fun h => ⟨hS, post_row rfl (by simp)⟩⟩
  have : l = [] := List.eq_nil_of_length_eq_zero (hb h)
  subst this
  exact post_nil rfl
def slices_Clip_sl_api_Pending_api_Pending.C : Contract
  | [.sl _ (.pends l)] => some (false, pD True (.sl true (.pends l)))
  | _ => none
set_option maxRecDepth 20000 in
theorem slices_Clip_sl_api_Pending_api_Pending.spec : FSpec Try.prog 40 slices_Clip_sl_api_Pending_api_Pending.C := by
  refine FSpec.of (ctx_ok (F := []) (S := []) (by simp) (by simp) slices_Clip_sl_api_Pending_api_Pending.loops) slices_Clip_sl_api_Pending_api_Pending.at slices_Clip_sl_api_Pending_api_Pending.nm slices_Clip_sl_api_Pending_api_Pending.bd ?_
  intro vs b S v news e hS
  unfold slices_Clip_sl_api_Pending_api_Pending.C at e
  split at e
  rotate_left
  · cases e
  cases e
  rw [slices_Clip_sl_api_Pending_api_Pending.eq]
  unfold slices_Clip_sl_api_Pending_api_Pending.H
  simp (maxSteps := 4000000) only [go_sem, Nat.reduceEqDiff, Nat.reduceLT, Nat.reduceAdd, Nat.reduceSub, Nat.reduceLeDiff, List.reduceReplicate, Int.reduceToNat]
  exact ⟨by omega, post_same rfl⟩
def slices_Equal_sl_int_int.C : Contract
  | [.sl _ (.ints .i64 a), .sl _ (.ints .i64 b)] => some (false, pD (roomy a.length) (.bool (decide (a = b))))
  | _ => none
set_option maxRecDepth 20000 in
theorem slices_Equal_sl_int_int.spec : FSpec Try.prog 31 slices_Equal_sl_int_int.C := by
  refine FSpec.of (ctx_ok (F := []) (S := []) (by simp) (by simp) slices_Equal_sl_int_int.loops) slices_Equal_sl_int_int.at slices_Equal_sl_int_int.nm slices_Equal_sl_int_int.bd ?_
  intro vs b S v news e hS
  unfold slices_Equal_sl_int_int.C at e
  split at e
  rotate_left
  · cases e
  cases e
  rw [slices_Equal_sl_int_int.eq]
  unfold slices_Equal_sl_int_int.H
  simp (maxSteps := 4000000) only [go_sem, Nat.reduceEqDiff, Nat.reduceLT, Nat.reduceAdd, Nat.reduceSub, Nat.reduceLeDiff, List.reduceReplicate, Int.reduceToNat]
  rename_i a _ b
  unfold roomy at hS
  refine ⟨fun hne => ?_, fun heq => ?_⟩
  · have : decide (a = b) = false := by rw [decide_eq_false_iff_not]; rintro rfl; exact hne rfl
    rw [this]; exact post_val rfl rfl
  rw [joinW_eq]
  unfold slices_Equal_sl_int_int.L1
  have hlen : a.length = b.length := by omega
  refine ⟨fun m lv h' => ∃ k : Nat, k + m = a.length ∧ lv = [.int .i64 k] ∧ h' = [] ∧ ∀ i, i < k → a.getD i 0 = b.getD i 0, ⟨a.length, 0, by omega, rfl, rfl, fun i hi => by omega⟩, ?_⟩
  rintro m h' t8 ⟨k, hk, hlv, rfl, hall⟩
  simp only [List.cons.injEq, and_true] at hlv
  subst hlv
  simp only [go_sem, Nat.reduceEqDiff, Nat.reduceLT, Nat.reduceAdd, Nat.reduceSub, Nat.reduceLeDiff, List.reduceReplicate, Int.reduceToNat]
  refine ⟨fun hlt => ⟨by omega, by omega, fun h0 => ?_, fun h0 => ?_⟩, fun hge => ?_⟩
  · have : decide (a = b) = false := by rw [decide_eq_false_iff_not]; rintro rfl; exact h0 rfl
    rw [this]; exact post_val rfl rfl
  · refine ⟨m - 1, by omega, k + 1, by omega, by rw [w64 (by omega) (by omega)]; rfl, ?_⟩
    intro i hi
    by_cases e : i = k
    · subst e; exact h0
    · exact hall i (by omega)
  · have : a = b := by
      apply List.ext_getElem hlen
      intro i h1 h2
      have := hall i (by omega)
      rw [List.getD_eq_getElem?_getD, List.getD_eq_getElem?_getD, List.getElem?_eq_getElem h1, List.getElem?_eq_getElem h2] at this
      exact this
    rw [decide_eq_true this]; exact post_val rfl rfl

def pmem_Check.C : Contract
  | [.agg [.sl false (.ints .i64 vol), .sl false (.ints .i64 per), .sl false (.pends pend)]] => some (false, pD (smallM vol per pend) (.bool (checkB vol per pend)))
  | _ => none
set_option maxRecDepth 20000 in
theorem pmem_Check.spec : FSpec Try.prog 11 pmem_Check.C := by
  refine FSpec.of (ctx_ok (F := [(29, pmem_sized.C), (30, slices_Clone_sl_int_int.C), (31, slices_Equal_sl_int_int.C)]) (S := []) (by simpa using ⟨pmem_sized.spec, slices_Clone_sl_int_int.spec, slices_Equal_sl_int_int.spec⟩) (by simp) pmem_Check.loops) pmem_Check.at pmem_Check.nm pmem_Check.bd ?_
  intro vs b S v news e hS
  unfold pmem_Check.C at e
  split at e
  rotate_left
  · cases e
  cases e
  rw [pmem_Check.eq]
  unfold pmem_Check.H
  simp (maxSteps := 4000000) only [go_sem, Nat.reduceEqDiff, Nat.reduceLT, Nat.reduceAdd, Nat.reduceSub, Nat.reduceLeDiff, List.reduceReplicate, Int.reduceToNat, pmem_sized.C, slices_Clone_sl_int_int.C, slices_Equal_sl_int_int.C]
  rename_i vol per pend
  obtain ⟨r1, r2, r3⟩ := hS
  unfold roomy at r1 r2 r3
  refine ⟨fun hb => ?_, fun hb => ⟨r2, ?_⟩⟩
  · have : checkB vol per pend = false := by
      unfold checkB
      rw [Bool.or_eq_true] at hb
      rcases hb with hb | hb
      · have : ¬ vol.length = per.length := by
          intro h; rw [h] at hb; simp at hb
        simp [this]
      · have : szB vol.length = false := by simpa using hb
        simp [this]
    rw [this]; exact post_val rfl rfl
  rw [Bool.or_eq_false_iff] at hb
  have hlen : vol.length = per.length := by
    have := hb.1
    rw [Bool.not_eq_false', decide_eq_true_eq] at this
    omega
  have hsz : szB vol.length = true := by simpa using hb.2
  have hcheck : checkB vol per pend = decide (chk pend per (fun _ => false) = some vol) := by unfold checkB; rw [hsz, decide_eq_true hlen]; simp
  rw [hcheck, joinW_eq]
  unfold pmem_Check.L1
  refine ⟨fun m lv h' => ∃ (k : Nat) (l : List Int) (o : Int → Bool), k + m = pend.length ∧ lv = [.int .i64 k] ∧ l.length = per.length ∧ chk pend per (fun _ => false) = chk (pend.drop k) l o ∧
      h' = [.box (.agg [.sl false (.ints .i64 vol), .sl false (.ints .i64 per), .sl false (.pends pend)]), .row .own 0 (.ints .i64 l), .map (.ib o)],
    ⟨pend.length, 0, per, fun _ => false, by omega, rfl, rfl, rfl, rfl⟩, ?_⟩
  rintro m h' t28 ⟨k, l, o, hk, hlv, hll, hchk, rfl⟩
  simp only [List.cons.injEq, and_true] at hlv
  subst hlv
  simp only [go_sem, Nat.reduceEqDiff, Nat.reduceLT, Nat.reduceAdd, Nat.reduceSub, Nat.reduceLeDiff, List.reduceReplicate, Int.reduceToNat, hll, encPend]
  refine ⟨fun hlt => ⟨by omega, ?_⟩, fun hge => ?_⟩
  · have hkl : k < pend.length := by omega
    have hd : pend.drop k = pend.getD k ⟨0, 0, false⟩ :: pend.drop (k + 1) := by
      rw [List.getD_eq_getElem?_getD, List.getElem?_eq_getElem hkl, List.drop_eq_getElem_cons hkl]; rfl
    generalize pend.getD k ⟨0, 0, false⟩ = p at *
    have hch : chk (pend.drop k) l o = match badB p l.length o with
      | true => none
      | false => chk (pend.drop (k + 1)) (l.set p.at_.toNat p.val) (opens p o) := by rw [hd]; rfl
    rw [hll] at hch
    refine ⟨fun _ _ => by decide, fun hbad => ?_, fun hok => ?_⟩
    · have : badB p per.length o = true := hbad
      rw [this] at hch
      rw [hchk, hch]; exact post_val rfl rfl
    · have hb2 : badB p per.length o = false := hok
      rw [hb2] at hch
      simp only [badB, Bool.or_eq_false_iff, decide_eq_false_iff_not] at hb2
      refine ⟨by decide, by decide, by omega, by omega, m - 1, by omega, k + 1, _, opens p o, by omega, by rw [w64 (by omega) (by omega)]; rfl, ?_, by rw [hchk]; exact hch, rfl⟩
      rw [List.length_set]; exact hll
  · have : k = pend.length := by omega
    subst this
    rw [List.drop_length] at hchk
    have hl : l.take per.length = l := List.take_of_length_le (by omega)
    simp only [hl, go_sem, Nat.reduceEqDiff, Nat.reduceLT, Nat.reduceAdd, Nat.reduceSub, Nat.reduceLeDiff, List.reduceReplicate, Int.reduceToNat, slices_Equal_sl_int_int.C]
    refine ⟨by unfold roomy; omega, ?_⟩
    rw [hchk]
    have : decide (chk [] l o = some vol) = decide (l = vol) := by simp [chk]
    rw [this]; exact post_val rfl rfl
def pmem_place.C : Contract
  | [.agg [.sl false (.ints .i64 vol), .sl false (.ints .i64 per), .sl false (.pends pend)], .int .i64 at_] => some (false, pD (smallM vol per pend) (.bool (placeB vol per pend at_)))
  | _ => none
set_option maxRecDepth 20000 in
theorem pmem_place.spec : FSpec Try.prog 32 pmem_place.C := by
  refine FSpec.of (ctx_ok (F := [(11, pmem_Check.C)]) (S := []) (by simpa using pmem_Check.spec) (by simp) pmem_place.loops) pmem_place.at pmem_place.nm pmem_place.bd ?_
  intro vs b S v news e hS
  unfold pmem_place.C at e
  split at e
  rotate_left
  · cases e
  cases e
  rw [pmem_place.eq]
  unfold pmem_place.H
  simp (maxSteps := 4000000) only [go_sem, Nat.reduceEqDiff, Nat.reduceLT, Nat.reduceAdd, Nat.reduceSub, Nat.reduceLeDiff, List.reduceReplicate, Int.reduceToNat, pmem_Check.C]
  exact ⟨fun _ => hS, post_val rfl rfl⟩
def pmem_first.C : Contract
  | [.agg [.sl false (.ints .i64 vol), .sl false (.ints .i64 per), .sl false (.pends pend)], .int .i64 line] => some (false, pD (roomy vol.length) (.int .i64 (firstI vol line)))
  | _ => none
set_option maxRecDepth 20000 in
theorem pmem_first.spec : FSpec Try.prog 33 pmem_first.C := by
  refine FSpec.of (ctx_ok (F := []) (S := []) (by simp) (by simp) pmem_first.loops) pmem_first.at pmem_first.nm pmem_first.bd ?_
  intro vs b S v news e hS
  unfold pmem_first.C at e
  split at e
  rotate_left
  · cases e
  cases e
  rw [pmem_first.eq]
  unfold pmem_first.H
  simp (maxSteps := 4000000) only [go_sem, Nat.reduceEqDiff, Nat.reduceLT, Nat.reduceAdd, Nat.reduceSub, Nat.reduceLeDiff, List.reduceReplicate, Int.reduceToNat]
  rename_i vol per pend line
  unfold roomy at hS
  have e : IntKind.i64.wrap ((vol.length : Int).tdiv 8) = ((vol.length / 8 : Nat) : Int) := by rw [tdiv8]; exact w64 (by omega) (by omega)
  rw [e]
  refine ⟨fun _ => by decide, fun hb => ?_, fun hb => ?_⟩
  · unfold firstI; rw [if_pos hb]; exact post_val rfl rfl
  · have h2 := hb
    rw [Bool.or_eq_false_iff, decide_eq_false_iff_not, decide_eq_false_iff_not] at h2
    rw [w64 (by omega) (by omega)]
    unfold firstI; rw [hb]; exact post_val rfl rfl
def pmem_Put.C : Contract
  | [.agg [.sl false (.ints .i64 vol), .sl false (.ints .i64 per), .sl false (.pends pend)], .int .i64 at_, .int .i64 val] => some (false, pD (smallM vol per pend ∧ roomy (pend.length + 1)) (putM vol per pend at_ val))
  | _ => none
set_option maxRecDepth 20000 in
theorem pmem_Put.spec : FSpec Try.prog 18 pmem_Put.C := by
  refine FSpec.of (ctx_ok (F := [(32, pmem_place.C), (40, slices_Clip_sl_api_Pending_api_Pending.C)]) (S := []) (by simpa using ⟨pmem_place.spec, slices_Clip_sl_api_Pending_api_Pending.spec⟩) (by simp) pmem_Put.loops) pmem_Put.at pmem_Put.nm pmem_Put.bd ?_
  intro vs b S v news e hS
  unfold pmem_Put.C at e
  split at e
  rotate_left
  · cases e
  cases e
  rw [pmem_Put.eq]
  unfold pmem_Put.H
  simp (maxSteps := 4000000) only [go_sem, Nat.reduceEqDiff, Nat.reduceLT, Nat.reduceAdd, Nat.reduceSub, Nat.reduceLeDiff, List.reduceReplicate, Int.reduceToNat, pmem_place.C, slices_Clip_sl_api_Pending_api_Pending.C]
  rename_i vol per pend at_ val
  obtain ⟨hS, hr⟩ := hS
  refine ⟨hS, fun hb => ?_, fun hb => ?_⟩
  · unfold putM; rw [hb]; exact post_val rfl rfl
  · have hp : 0 ≤ at_ ∧ at_ < (vol.length : Int) := by
      simp only [placeB, Bool.and_eq_true, decide_eq_true_eq] at hb
      exact hb.1
    have e : vol ++ List.take (vol.length - min vol.length vol.length) (List.drop (min vol.length vol.length) (List.replicate vol.length 0)) = vol := by simp
    rw [e]
    have hl : (pend ++ [(⟨at_, val, false⟩ : Pend)]).length = pend.length + 1 := by simp
    rw [hl]
    refine ⟨⟨by omega, by omega, hS.1⟩, hp, by omega, hr, rfl, ?_⟩
    unfold putM
    simp only [hb, if_true]
    refine post_val ?_ rfl
    have t1 : (vol.set at_.toNat val).take vol.length = vol.set at_.toNat val := List.take_of_length_le (by simp)
    have t2 : (pend ++ [(⟨at_, val, false⟩ : Pend)]).take (pend.length + 1) = pend ++ [(⟨at_, val, false⟩ : Pend)] := List.take_of_length_le (by simp)
    simp only [go_sem, Nat.reduceEqDiff, Nat.reduceLT, Nat.reduceAdd, Nat.reduceSub, Nat.reduceLeDiff, List.reduceReplicate, Int.reduceToNat, memV, t1, t2]
def pmem_of_1.I : Con → Con := fun Y args h K => match args with
  | [.fn (.yield l) [] [], a0, a1] => pmem_of_1.H ((ctx [] [] pmem_of_1.loops).withY l Y) (.fn (.yield l) [] []) a0 a1 h K
  | _ => False
theorem pmem_of_1.spec : ISpec Try.prog 45 pmem_of_1.I := by
  refine ISpec.of (ctx_ok (F := []) (S := []) (by simp) (by simp) pmem_of_1.loops).toOkI pmem_of_1.at pmem_of_1.nm pmem_of_1.bd ?_
  intro Yc l cap h K hC
  unfold pmem_of_1.I at hC
  split at hC
  · rename_i e
    simp only [List.cons.injEq, AV.fn.injEq, Fn.yield.injEq, and_true, true_and] at e
    obtain ⟨rfl, rfl⟩ := e
    rw [pmem_of_1.eq]; exact hC
  · exact hC.elim
def pmem_of.K : Con := fun args h K => match args with
  | [a0, a1] => pmem_of.H (ctx [] [] pmem_of.loops) a0 a1 h K
  | _ => False
theorem pmem_of.spec : SSpec Try.prog 35 pmem_of.K := by
  refine SSpec.of (ctx_ok (F := []) (S := []) (by simp) (by simp) pmem_of.loops) pmem_of.at pmem_of.nm pmem_of.bd ?_
  intro args h K hC
  unfold pmem_of.K at hC
  split at hC
  · rw [pmem_of.eq]; exact hC
  · exact hC.elim
def pmem_Flush.C : Contract
  | [.agg [.sl false (.ints .i64 vol), .sl false (.ints .i64 per), .sl false (.pends pend)], .int .i64 line] => some (false, pD (smallM vol per pend) (flushM vol per pend line))
  | _ => none
set_option maxRecDepth 20000 in
theorem pmem_Flush.spec : FSpec Try.prog 12 pmem_Flush.C := by
  refine FSpec.of (ctxI_ok (F := [(32, pmem_place.C), (33, pmem_first.C), (34, slices_Clone_sl_api_Pending_api_Pending.C)]) (S := [(35, pmem_of.K)]) (Is := [(45, pmem_of_1.I)]) (by simpa using ⟨pmem_place.spec, pmem_first.spec, slices_Clone_sl_api_Pending_api_Pending.spec⟩) (by simpa using pmem_of.spec) (by simpa using pmem_of_1.spec) pmem_Flush.loops) pmem_Flush.at pmem_Flush.nm pmem_Flush.bd ?_
  intro vs b S v news e hS
  unfold pmem_Flush.C at e
  split at e
  rotate_left
  · cases e
  cases e
  rw [pmem_Flush.eq]
  unfold pmem_Flush.H
  simp (maxSteps := 4000000) only [go_sem, Nat.reduceEqDiff, Nat.reduceLT, Nat.reduceAdd, Nat.reduceSub, Nat.reduceLeDiff, List.reduceReplicate, Int.reduceToNat, pmem_place.C, pmem_first.C, slices_Clone_sl_api_Pending_api_Pending.C, pmem_of.K, pmem_of.H, pmem_of_1.I, pmem_of_1.H, joinW_eq]
  rename_i vol per pend line
  refine ⟨hS.1, hS, fun hb => ?_, fun hb => ⟨hS.2.2, ?_⟩⟩
  · unfold flushM; rw [hb]; exact post_val rfl rfl
  intro l r
  obtain ⟨s1, s2, s3⟩ := hS
  unfold roomy at s1 s2 s3
  unfold pmem_of_1.L1
  refine ⟨fun m lv h' => ∃ k : Nat, k + m = pend.length ∧ lv = [.int .i64 k] ∧ h' = [.box (.agg [.sl false (.ints .i64 vol), .sl false (.ints .i64 per), .sl false (.pends pend)]),
      .box (.agg [.sl false (.ints .i64 []), .sl false (.ints .i64 []), .sl false (.pends [])]), .row .own 0 (.pends (flushP line (pend.take k) ++ pend.drop k)), .box (.sref false 2 0 0 pend.length),
      .box (.agg [.sl false (.ints .i64 vol), .sl false (.ints .i64 per), .sl false (.pends pend)]), .box (.int .i64 line), .lp .ready none r],
    ⟨pend.length, 0, by omega, rfl, rfl⟩, ?_⟩
  rintro m h' t9 ⟨k, hk, hlv, rfl⟩
  simp only [List.cons.injEq, and_true] at hlv
  subst hlv
  have hlen : (flushP line (pend.take k) ++ pend.drop k).length = pend.length := by simp [flushP]; omega
  simp only [go_sem, Nat.reduceEqDiff, Nat.reduceLT, Nat.reduceAdd, Nat.reduceSub, Nat.reduceLeDiff, List.reduceReplicate, Int.reduceToNat, encPend, hlen]
  refine ⟨fun hlt => ?_, fun hge => ?_⟩
  · have hkl : k < pend.length := by omega
    have hget : (flushP line (pend.take k) ++ pend.drop k).getD k ⟨0, 0, false⟩ = pend.getD k ⟨0, 0, false⟩ := by
      rw [List.getD_eq_getElem?_getD, List.getElem?_append_right (by simp [flushP]; omega)]
      have e : k - (flushP line (pend.take k)).length = 0 := by simp [flushP]; omega
      rw [e, List.getElem?_drop, Nat.add_zero, List.getD_eq_getElem?_getD]
    have hdrop : pend.drop k = pend.getD k ⟨0, 0, false⟩ :: pend.drop (k + 1) := by
      rw [List.getD_eq_getElem?_getD, List.getElem?_eq_getElem hkl, List.drop_eq_getElem_cons hkl]; rfl
    have hset : ∀ q : Pend, (flushP line (pend.take k) ++ pend.drop k).set k q = flushP line (pend.take k) ++ q :: pend.drop (k + 1) := by
      intro q
      rw [hdrop, List.set_append_right _ _ (by simp [flushP]; omega)]
      have e : k - (flushP line (pend.take k)).length = 0 := by simp [flushP]; omega
      rw [e]; rfl
    have hnx : flushP line (pend.take (k + 1)) = flushP line (pend.take k) ++ [if lineOf (pend.getD k ⟨0, 0, false⟩).at_ = line then { pend.getD k ⟨0, 0, false⟩ with fl := true } else pend.getD k ⟨0, 0, false⟩] := by
      rw [take_next pend k ⟨0, 0, false⟩ hkl]
      simp [flushP]
    rw [joinW_eq]
    simp only [guardW_bool, hget, hset]
    refine ⟨by omega, by decide, fun hc => ?_, fun hc => ?_⟩
    · have hc : lineOf (pend.getD k ⟨0, 0, false⟩).at_ = line := by simpa [lineOf] using hc
      simp only [go_sem, Nat.reduceEqDiff, Nat.reduceLT, Nat.reduceAdd, Nat.reduceSub, Nat.reduceLeDiff, List.reduceReplicate, Int.reduceToNat]
      refine ⟨⟨by omega, by omega⟩, hkl, m - 1, by omega, k + 1, by omega, by rw [w64 (by omega) (by omega)]; rfl, ?_⟩
      rw [hnx, if_pos hc, List.append_assoc]; rfl
    · have hc : ¬ lineOf (pend.getD k ⟨0, 0, false⟩).at_ = line := by simpa [lineOf] using hc
      simp only [go_sem, Nat.reduceEqDiff, Nat.reduceLT, Nat.reduceAdd, Nat.reduceSub, Nat.reduceLeDiff, List.reduceReplicate, Int.reduceToNat]
      refine ⟨m - 1, by omega, k + 1, by omega, by rw [w64 (by omega) (by omega)]; rfl, ?_⟩
      rw [hnx, if_neg hc, List.append_assoc, hdrop]; rfl
  · have : k = pend.length := by omega
    subst this
    rw [List.take_length, List.drop_length, List.append_nil] at hlen
    have e : flushP line (pend.take pend.length) ++ pend.drop pend.length = flushP line pend := by rw [List.take_length, List.drop_length, List.append_nil]
    rw [e]
    unfold flushM
    simp only [hb, if_true]
    refine post_val ?_ rfl
    have t1 : (flushP line pend).take pend.length = flushP line pend := List.take_of_length_le (by omega)
    simp only [go_sem, Nat.reduceEqDiff, Nat.reduceLT, Nat.reduceAdd, Nat.reduceSub, Nat.reduceLeDiff, List.reduceReplicate, Int.reduceToNat, memV, t1]
def pmem_Fence_1.C : Contract
  | [.agg [.int .i64 a, .int .i64 v, .bool f]] => some (false, pD True (.bool f))
  | _ => none
set_option maxRecDepth 20000 in
theorem pmem_Fence_1.spec : FSpec Try.prog 37 pmem_Fence_1.C := by
  refine FSpec.of (ctx_ok (F := []) (S := []) (by simp) (by simp) pmem_Fence_1.loops) pmem_Fence_1.at pmem_Fence_1.nm pmem_Fence_1.bd ?_
  intro vs b S v news e hS
  unfold pmem_Fence_1.C at e
  split at e
  rotate_left
  · cases e
  cases e
  rw [pmem_Fence_1.eq]
  unfold pmem_Fence_1.H
  simp (maxSteps := 4000000) only [go_sem, Nat.reduceEqDiff, Nat.reduceLT, Nat.reduceAdd, Nat.reduceSub, Nat.reduceLeDiff, List.reduceReplicate, Int.reduceToNat]
  exact post_val rfl rfl
def pmem_Sync_1.C : Contract
  | [.agg [.int .i64 a, .int .i64 v, .bool f]] => some (false, pD True (.bool true))
  | _ => none
set_option maxRecDepth 20000 in
theorem pmem_Sync_1.spec : FSpec Try.prog 44 pmem_Sync_1.C := by
  refine FSpec.of (ctx_ok (F := []) (S := []) (by simp) (by simp) pmem_Sync_1.loops) pmem_Sync_1.at pmem_Sync_1.nm pmem_Sync_1.bd ?_
  intro vs b S v news e hS
  unfold pmem_Sync_1.C at e
  split at e
  rotate_left
  · cases e
  cases e
  rw [pmem_Sync_1.eq]
  unfold pmem_Sync_1.H
  simp (maxSteps := 4000000) only [go_sem, Nat.reduceEqDiff, Nat.reduceLT, Nat.reduceAdd, Nat.reduceSub, Nat.reduceLeDiff, List.reduceReplicate, Int.reduceToNat]
  exact post_val rfl rfl
def pmem_Evict_1.K : Con := fun args h K => match args with
  | [a0, a1] => pmem_Evict_1.H (ctx [] [] pmem_Evict_1.loops) a0 a1 h K
  | _ => False
theorem pmem_Evict_1.spec : SSpec Try.prog 38 pmem_Evict_1.K := by
  refine SSpec.of (ctx_ok (F := []) (S := []) (by simp) (by simp) pmem_Evict_1.loops) pmem_Evict_1.at pmem_Evict_1.nm pmem_Evict_1.bd ?_
  intro args h K hC
  unfold pmem_Evict_1.K at hC
  split at hC
  · rw [pmem_Evict_1.eq]; exact hC
  · exact hC.elim
def pmem_Crash_1.K : Con := fun args h K => match args with
  | [a0, a1] => pmem_Crash_1.H (ctx [] [] pmem_Crash_1.loops) a0 a1 h K
  | _ => False
theorem pmem_Crash_1.spec : SSpec Try.prog 39 pmem_Crash_1.K := by
  refine SSpec.of (ctx_ok (F := []) (S := []) (by simp) (by simp) pmem_Crash_1.loops) pmem_Crash_1.at pmem_Crash_1.nm pmem_Crash_1.bd ?_
  intro args h K hC
  unfold pmem_Crash_1.K at hC
  split at hC
  · rw [pmem_Crash_1.eq]; exact hC
  · exact hC.elim
def pmem_keep.K : Con := fun args h K => match args with
  | [a0, a1] => pmem_keep.H (ctx [(30, slices_Clone_sl_int_int.C), (37, pmem_Fence_1.C), (44, pmem_Sync_1.C)] [(38, pmem_Evict_1.K), (39, pmem_Crash_1.K)] pmem_keep.loops) a0 a1 h K
  | _ => False
theorem pmem_keep.spec : SSpec Try.prog 36 pmem_keep.K := by
  refine SSpec.of (ctx_ok (F := [(30, slices_Clone_sl_int_int.C), (37, pmem_Fence_1.C), (44, pmem_Sync_1.C)]) (S := [(38, pmem_Evict_1.K), (39, pmem_Crash_1.K)]) (by simpa using ⟨slices_Clone_sl_int_int.spec, pmem_Fence_1.spec, pmem_Sync_1.spec⟩) (by simpa using ⟨pmem_Evict_1.spec, pmem_Crash_1.spec⟩) pmem_keep.loops) pmem_keep.at pmem_keep.nm pmem_keep.bd ?_
  intro args h K hC
  unfold pmem_keep.K at hC
  split at hC
  · rw [pmem_keep.eq]; exact hC
  · exact hC.elim

def pmem_Fence.C : Contract
  | [.agg [.sl false (.ints .i64 vol), .sl false (.ints .i64 per), .sl false (.pends pend)]] => some (false, pD (smallM vol per pend) (fenceM fFl (checkB vol per pend) vol per pend))
  | _ => none
set_option maxRecDepth 20000 in
theorem pmem_Fence.spec : FSpec Try.prog 13 pmem_Fence.C := by
  refine FSpec.of (ctx_ok (F := [(11, pmem_Check.C)]) (S := [(36, pmem_keep.K)]) (by simpa using pmem_Check.spec) (by simpa using pmem_keep.spec) pmem_Fence.loops) pmem_Fence.at pmem_Fence.nm pmem_Fence.bd ?_
  intro vs b S v news e hS
  unfold pmem_Fence.C at e
  split at e
  rotate_left
  · cases e
  cases e
  rw [pmem_Fence.eq]
  unfold pmem_Fence.H
  simp (maxSteps := 4000000) only [go_sem, Nat.reduceEqDiff, Nat.reduceLT, Nat.reduceAdd, Nat.reduceSub, Nat.reduceLeDiff, List.reduceReplicate, Int.reduceToNat, pmem_Check.C, pmem_keep.K, pmem_keep.H, slices_Clone_sl_int_int.C]
  rename_i vol per pend
  refine ⟨hS, fun hb => ?_, fun hb => ⟨hS.2.1, ?_⟩⟩
  · unfold fenceM; rw [hb]; exact post_val rfl rfl
  obtain ⟨s1, s2, s3⟩ := hS
  unfold roomy at s1 s2 s3
  have hrange := check_range hb
  rw [joinW_eq]
  unfold pmem_keep.L1
  refine ⟨fun m lv h' => ∃ k v : Nat, k + m = pend.length ∧ lv = [.int .i64 k] ∧ h' = [.box (.agg [.sl false (.ints .i64 vol), .sl false (.ints .i64 per), .sl false (.pends pend)]), .box (.agg [.sl false (.ints .i64 []), .sl false (.ints .i64 []), .sl false (.pends [])]), .box (.agg [.sl false (.ints .i64 vol), .sl false (.ints .i64 per), .sl false (.pends pend)]), .box (.agg [.sl false (.ints .i64 []), .sl false (.ints .i64 []), .sl false (.pends [])]), .row .own 0 (.ints .i64 (keepW fFl (pend.take k) per)), .box (.agg [.sl false (.ints .i64 vol), .sref false 4 0 0 per.length, .sref false 6 v 0 (keepP fFl (pend.take k)).length]), .row .own v (.pends (keepP fFl (pend.take k)))],
    ⟨pend.length, 0, 0, by omega, rfl, rfl⟩, ?_⟩
  rintro m h' t17 ⟨k, v, hk, hlv, rfl⟩
  simp only [List.cons.injEq, and_true] at hlv
  subst hlv
  have hwl : (keepW fFl (pend.take k) per).length = per.length := keepW_len _ _ _
  have hpl : (keepP fFl (pend.take k)).length ≤ k := Nat.le_trans (List.length_filter_le _ _) (by simp; omega)
  simp only [go_sem, Nat.reduceEqDiff, Nat.reduceLT, Nat.reduceAdd, Nat.reduceSub, Nat.reduceLeDiff, List.reduceReplicate, Int.reduceToNat, encPend, hwl, pmem_Fence_1.C]
  refine ⟨fun hlt => ?_, fun hge => ?_⟩
  · have hkl : k < pend.length := by omega
    have hr := hrange _ (getD_mem pend k ⟨0, 0, false⟩ hkl)
    have hW := keepW_snoc fFl (pend.getD k ⟨0, 0, false⟩) (pend.take k) per
    have hP := keepP_snoc fFl (pend.getD k ⟨0, 0, false⟩) (pend.take k)
    rw [← take_next pend k ⟨0, 0, false⟩ hkl] at hW hP
    generalize pend.getD k ⟨0, 0, false⟩ = p at *
    try rw [joinW_eq]
    refine ⟨by omega, fun hc => ?_, fun hc => ?_⟩
    · have hc : fFl p = true := hc
      rw [hc] at hW hP
      simp only [go_sem, Nat.reduceEqDiff, Nat.reduceLT, Nat.reduceAdd, Nat.reduceSub, Nat.reduceLeDiff, List.reduceReplicate, Int.reduceToNat]
      refine ⟨hr, by omega, m - 1, by omega, k + 1, v, by omega, by rw [w64 (by omega) (by omega)]; rfl, ?_⟩
      rw [hW, hP]
    · have hc : fFl p = false := hc
      rw [hc] at hW hP
      simp only [go_sem, Nat.reduceEqDiff, Nat.reduceLT, Nat.reduceAdd, Nat.reduceSub, Nat.reduceLeDiff, List.reduceReplicate, Int.reduceToNat]
      refine ⟨by unfold roomy; simp; omega, m - 1, by omega, k + 1, v + 1, by omega, by rw [w64 (by omega) (by omega)]; rfl, ?_⟩
      rw [hW, hP]
  · have : k = pend.length := by omega
    subst this
    rw [List.take_length] at hwl hpl ⊢
    have t1 : (keepW fFl pend per).take per.length = keepW fFl pend per := List.take_of_length_le (by omega)
    have t2 : (keepP fFl pend).take (keepP fFl pend).length = keepP fFl pend := List.take_length
    unfold fenceM
    simp only [hb, if_true, go_sem, Nat.reduceEqDiff, Nat.reduceLT, Nat.reduceAdd, Nat.reduceSub, Nat.reduceLeDiff, List.reduceReplicate, Int.reduceToNat]
    refine post_val ?_ rfl
    simp only [go_sem, Nat.reduceEqDiff, Nat.reduceLT, Nat.reduceAdd, Nat.reduceSub, Nat.reduceLeDiff, List.reduceReplicate, Int.reduceToNat, memV, t1, t2]

def pmem_Evict.C : Contract
  | [.agg [.sl false (.ints .i64 vol), .sl false (.ints .i64 per), .sl false (.pends pend)], .int .i64 line] => some (false, pD (smallM vol per pend) (fenceM (fLn line) (placeB vol per pend (firstI vol line)) vol per pend))
  | _ => none
set_option maxRecDepth 20000 in
theorem pmem_Evict.spec : FSpec Try.prog 14 pmem_Evict.C := by
  refine FSpec.of (ctx_ok (F := [(32, pmem_place.C), (33, pmem_first.C)]) (S := [(36, pmem_keep.K)]) (by simpa using ⟨pmem_place.spec, pmem_first.spec⟩) (by simpa using pmem_keep.spec) pmem_Evict.loops) pmem_Evict.at pmem_Evict.nm pmem_Evict.bd ?_
  intro vs b S v news e hS
  unfold pmem_Evict.C at e
  split at e
  rotate_left
  · cases e
  cases e
  rw [pmem_Evict.eq]
  unfold pmem_Evict.H
  simp (maxSteps := 4000000) only [go_sem, Nat.reduceEqDiff, Nat.reduceLT, Nat.reduceAdd, Nat.reduceSub, Nat.reduceLeDiff, List.reduceReplicate, Int.reduceToNat, pmem_place.C, pmem_first.C, pmem_keep.K, pmem_keep.H, slices_Clone_sl_int_int.C]
  rename_i vol per pend line
  refine ⟨hS.1, hS, fun hb => ?_, fun hb => ⟨hS.2.1, ?_⟩⟩
  · unfold fenceM; rw [hb]; exact post_val rfl rfl
  obtain ⟨s1, s2, s3⟩ := hS
  unfold roomy at s1 s2 s3
  have hrange := check_range (place_check hb)
  rw [joinW_eq]
  unfold pmem_keep.L1
  refine ⟨fun m lv h' => ∃ k v : Nat, k + m = pend.length ∧ lv = [.int .i64 k] ∧ h' = [.box (.agg [.sl false (.ints .i64 vol), .sl false (.ints .i64 per), .sl false (.pends pend)]), .box (.int .i64 line), .box (.agg [.sl false (.ints .i64 []), .sl false (.ints .i64 []), .sl false (.pends [])]), .box (.agg [.sl false (.ints .i64 vol), .sl false (.ints .i64 per), .sl false (.pends pend)]), .box (.agg [.sl false (.ints .i64 []), .sl false (.ints .i64 []), .sl false (.pends [])]), .row .own 0 (.ints .i64 (keepW (fLn line) (pend.take k) per)), .box (.agg [.sl false (.ints .i64 vol), .sref false 5 0 0 per.length, .sref false 7 v 0 (keepP (fLn line) (pend.take k)).length]), .row .own v (.pends (keepP (fLn line) (pend.take k)))],
    ⟨pend.length, 0, 0, by omega, rfl, rfl⟩, ?_⟩
  rintro m h' t17 ⟨k, v, hk, hlv, rfl⟩
  simp only [List.cons.injEq, and_true] at hlv
  subst hlv
  have hwl : (keepW (fLn line) (pend.take k) per).length = per.length := keepW_len _ _ _
  have hpl : (keepP (fLn line) (pend.take k)).length ≤ k := Nat.le_trans (List.length_filter_le _ _) (by simp; omega)
  simp only [go_sem, Nat.reduceEqDiff, Nat.reduceLT, Nat.reduceAdd, Nat.reduceSub, Nat.reduceLeDiff, List.reduceReplicate, Int.reduceToNat, encPend, hwl, pmem_Evict_1.K, pmem_Evict_1.H]
  refine ⟨fun hlt => ?_, fun hge => ?_⟩
  · have hkl : k < pend.length := by omega
    have hr := hrange _ (getD_mem pend k ⟨0, 0, false⟩ hkl)
    have hW := keepW_snoc (fLn line) (pend.getD k ⟨0, 0, false⟩) (pend.take k) per
    have hP := keepP_snoc (fLn line) (pend.getD k ⟨0, 0, false⟩) (pend.take k)
    rw [← take_next pend k ⟨0, 0, false⟩ hkl] at hW hP
    generalize pend.getD k ⟨0, 0, false⟩ = p at *
    try rw [joinW_eq]
    refine ⟨by omega, by decide, fun hc => ?_, fun hc => ?_⟩
    · have hc : (fLn line) p = true := decide_eq_true hc
      rw [hc] at hW hP
      simp only [go_sem, Nat.reduceEqDiff, Nat.reduceLT, Nat.reduceAdd, Nat.reduceSub, Nat.reduceLeDiff, List.reduceReplicate, Int.reduceToNat]
      refine ⟨hr, by omega, m - 1, by omega, k + 1, v, by omega, by rw [w64 (by omega) (by omega)]; rfl, ?_⟩
      rw [hW, hP]
    · have hc : (fLn line) p = false := decide_eq_false hc
      rw [hc] at hW hP
      simp only [go_sem, Nat.reduceEqDiff, Nat.reduceLT, Nat.reduceAdd, Nat.reduceSub, Nat.reduceLeDiff, List.reduceReplicate, Int.reduceToNat]
      refine ⟨by unfold roomy; simp; omega, m - 1, by omega, k + 1, v + 1, by omega, by rw [w64 (by omega) (by omega)]; rfl, ?_⟩
      rw [hW, hP]
  · have : k = pend.length := by omega
    subst this
    rw [List.take_length] at hwl hpl ⊢
    have t1 : (keepW (fLn line) pend per).take per.length = keepW (fLn line) pend per := List.take_of_length_le (by omega)
    have t2 : (keepP (fLn line) pend).take (keepP (fLn line) pend).length = keepP (fLn line) pend := List.take_length
    unfold fenceM
    simp only [hb, if_true, go_sem, Nat.reduceEqDiff, Nat.reduceLT, Nat.reduceAdd, Nat.reduceSub, Nat.reduceLeDiff, List.reduceReplicate, Int.reduceToNat]
    refine post_val ?_ rfl
    simp only [go_sem, Nat.reduceEqDiff, Nat.reduceLT, Nat.reduceAdd, Nat.reduceSub, Nat.reduceLeDiff, List.reduceReplicate, Int.reduceToNat, memV, t1, t2]

def pmem_Sync.C : Contract
  | [.agg [.sl false (.ints .i64 vol), .sl false (.ints .i64 per), .sl false (.pends pend)]] => some (false, pD (smallM vol per pend) (fenceM fAll (checkB vol per pend) vol per pend))
  | _ => none
set_option maxRecDepth 20000 in
theorem pmem_Sync.spec : FSpec Try.prog 23 pmem_Sync.C := by
  refine FSpec.of (ctx_ok (F := [(11, pmem_Check.C)]) (S := [(36, pmem_keep.K)]) (by simpa using pmem_Check.spec) (by simpa using pmem_keep.spec) pmem_Sync.loops) pmem_Sync.at pmem_Sync.nm pmem_Sync.bd ?_
  intro vs b S v news e hS
  unfold pmem_Sync.C at e
  split at e
  rotate_left
  · cases e
  cases e
  rw [pmem_Sync.eq]
  unfold pmem_Sync.H
  simp (maxSteps := 4000000) only [go_sem, Nat.reduceEqDiff, Nat.reduceLT, Nat.reduceAdd, Nat.reduceSub, Nat.reduceLeDiff, List.reduceReplicate, Int.reduceToNat, pmem_Check.C, pmem_keep.K, pmem_keep.H, slices_Clone_sl_int_int.C]
  rename_i vol per pend
  refine ⟨hS, fun hb => ?_, fun hb => ⟨hS.2.1, ?_⟩⟩
  · unfold fenceM; rw [hb]; exact post_val rfl rfl
  obtain ⟨s1, s2, s3⟩ := hS
  unfold roomy at s1 s2 s3
  have hrange := check_range hb
  rw [joinW_eq]
  unfold pmem_keep.L1
  refine ⟨fun m lv h' => ∃ k v : Nat, k + m = pend.length ∧ lv = [.int .i64 k] ∧ h' = [.box (.agg [.sl false (.ints .i64 vol), .sl false (.ints .i64 per), .sl false (.pends pend)]), .box (.agg [.sl false (.ints .i64 []), .sl false (.ints .i64 []), .sl false (.pends [])]), .box (.agg [.sl false (.ints .i64 vol), .sl false (.ints .i64 per), .sl false (.pends pend)]), .box (.agg [.sl false (.ints .i64 []), .sl false (.ints .i64 []), .sl false (.pends [])]), .row .own 0 (.ints .i64 (keepW fAll (pend.take k) per)), .box (.agg [.sl false (.ints .i64 vol), .sref false 4 0 0 per.length, .sref false 6 v 0 (keepP fAll (pend.take k)).length]), .row .own v (.pends (keepP fAll (pend.take k)))],
    ⟨pend.length, 0, 0, by omega, rfl, rfl⟩, ?_⟩
  rintro m h' t17 ⟨k, v, hk, hlv, rfl⟩
  simp only [List.cons.injEq, and_true] at hlv
  subst hlv
  have hwl : (keepW fAll (pend.take k) per).length = per.length := keepW_len _ _ _
  have hpl : (keepP fAll (pend.take k)).length ≤ k := Nat.le_trans (List.length_filter_le _ _) (by simp; omega)
  simp only [go_sem, Nat.reduceEqDiff, Nat.reduceLT, Nat.reduceAdd, Nat.reduceSub, Nat.reduceLeDiff, List.reduceReplicate, Int.reduceToNat, encPend, hwl, pmem_Sync_1.C]
  refine ⟨fun hlt => ?_, fun hge => ?_⟩
  · have hkl : k < pend.length := by omega
    have hr := hrange _ (getD_mem pend k ⟨0, 0, false⟩ hkl)
    have hW := keepW_snoc fAll (pend.getD k ⟨0, 0, false⟩) (pend.take k) per
    have hP := keepP_snoc fAll (pend.getD k ⟨0, 0, false⟩) (pend.take k)
    rw [← take_next pend k ⟨0, 0, false⟩ hkl] at hW hP
    generalize pend.getD k ⟨0, 0, false⟩ = p at *
    try rw [joinW_eq]
    refine ⟨by omega, ?_⟩
    · have hc : fAll p = true := rfl
      rw [hc] at hW hP
      simp only [go_sem, Nat.reduceEqDiff, Nat.reduceLT, Nat.reduceAdd, Nat.reduceSub, Nat.reduceLeDiff, List.reduceReplicate, Int.reduceToNat]
      refine ⟨hr, by omega, m - 1, by omega, k + 1, v, by omega, by rw [w64 (by omega) (by omega)]; rfl, ?_⟩
      rw [hW, hP]
  · have : k = pend.length := by omega
    subst this
    rw [List.take_length] at hwl hpl ⊢
    have t1 : (keepW fAll pend per).take per.length = keepW fAll pend per := List.take_of_length_le (by omega)
    have t2 : (keepP fAll pend).take (keepP fAll pend).length = keepP fAll pend := List.take_length
    unfold fenceM
    simp only [hb, if_true, go_sem, Nat.reduceEqDiff, Nat.reduceLT, Nat.reduceAdd, Nat.reduceSub, Nat.reduceLeDiff, List.reduceReplicate, Int.reduceToNat]
    refine post_val ?_ rfl
    simp only [go_sem, Nat.reduceEqDiff, Nat.reduceLT, Nat.reduceAdd, Nat.reduceSub, Nat.reduceLeDiff, List.reduceReplicate, Int.reduceToNat, memV, t1, t2]
end Lam
namespace Lam
open Go Go.Proofs
set_option linter.unusedVariables false
set_option linter.unnecessarySimpa false
set_option linter.unusedSimpArgs false
def pmem_New.C : Contract
  | [.sl _ (.ints .i64 l)] => some (false, pD (roomy l.length) (newM l))
  | _ => none
set_option maxRecDepth 20000 in
theorem pmem_New.spec : FSpec Try.prog 26 pmem_New.C := by
  refine FSpec.of (ctx_ok (F := [(29, pmem_sized.C), (30, slices_Clone_sl_int_int.C)]) (S := []) (by simpa using ⟨pmem_sized.spec, slices_Clone_sl_int_int.spec⟩) (by simp) pmem_New.loops) pmem_New.at pmem_New.nm pmem_New.bd ?_
  intro vs b S v news e hS
  unfold pmem_New.C at e
  split at e
  rotate_left
  · cases e
  cases e
  rw [pmem_New.eq]
  unfold pmem_New.H
  simp (maxSteps := 4000000) only [go_sem, Nat.reduceEqDiff, Nat.reduceLT, Nat.reduceAdd, Nat.reduceSub, Nat.reduceLeDiff, List.reduceReplicate, Int.reduceToNat, pmem_sized.C, slices_Clone_sl_int_int.C]
  rename_i l
  unfold roomy at hS
  refine ⟨fun hb => ?_, fun hb => ?_⟩
  · unfold newM; rw [hb]; exact post_val rfl rfl
  · refine ⟨hS, hS, ?_⟩
    unfold newM; simp only [hb, if_true]
    refine post_val ?_ rfl
    simp only [go_sem, Nat.reduceEqDiff, Nat.reduceLT, Nat.reduceAdd, Nat.reduceSub, Nat.reduceLeDiff, List.reduceReplicate, Int.reduceToNat, memV, List.take_length]
def pmem_Crash.C : Contract
  | [.agg [.sl false (.ints .i64 vol), .sl false (.ints .i64 per), .sl false (.pends pend)], .sl _ (.ints .i64 keep)] => some (false, pD (smallM vol per pend ∧ roomy keep.length ∧ i64s keep) (crashM (checkB vol per pend) keep per pend))
  | _ => none
set_option maxRecDepth 20000 in
theorem pmem_Crash.spec : FSpec Try.prog 15 pmem_Crash.C := by
  refine FSpec.of (ctx_ok (F := [(11, pmem_Check.C)]) (S := [(36, pmem_keep.K)]) (by simpa using pmem_Check.spec) (by simpa using pmem_keep.spec) pmem_Crash.loops) pmem_Crash.at pmem_Crash.nm pmem_Crash.bd ?_
  intro vs b S v news e hS
  unfold pmem_Crash.C at e
  split at e
  rotate_left
  · cases e
  cases e
  rw [pmem_Crash.eq]
  unfold pmem_Crash.H
  simp (maxSteps := 4000000) only [go_sem, Nat.reduceEqDiff, Nat.reduceLT, Nat.reduceAdd, Nat.reduceSub, Nat.reduceLeDiff, List.reduceReplicate, Int.reduceToNat, pmem_Check.C]
  rename_i vol per pend _ keep
  obtain ⟨hS, hr, hw64⟩ := hS
  refine ⟨hS, fun hb => ?_, fun hb => ?_⟩
  · unfold crashM; rw [hb]; exact post_val rfl rfl
  obtain ⟨s1, s2, s3⟩ := hS
  unfold roomy at s1 s2 s3 hr
  have hrange := check_range hb
  rw [joinW_eq]
  unfold pmem_Crash.L1
  refine loop1 (σ := Nat) (fun k => .int .i64 k) (fun k => [AObj.box (memV vol per pend), AObj.map (MapC.ii (leftF (keep.take k))), AObj.box (AV.map 1)]) (fun k => keep.length - k) (fun k => k ≤ keep.length) 0 rfl ?_ (Nat.zero_le _) ?_
  · simp [memV, Lam.normO]
    exact leftF_nil.symm
  intro I back k hk
  simp only [go_sem, Nat.reduceEqDiff, Nat.reduceLT, Nat.reduceAdd, Nat.reduceSub, Nat.reduceLeDiff, List.reduceReplicate, Int.reduceToNat]
  refine ⟨fun hlt => ⟨by omega, back (k + 1) (by omega) (by rw [wnext (by omega)]) ?_ (by omega)⟩, fun hge => ?_⟩
  · rw [leftF_next keep (by omega)]; rfl
  obtain rfl : k = keep.length := by omega
  simp only [List.take_length, pmem_keep.K, pmem_keep.H, slices_Clone_sl_int_int.C, go_sem, Nat.reduceEqDiff, Nat.reduceLT, Nat.reduceAdd, Nat.reduceSub, Nat.reduceLeDiff, List.reduceReplicate, Int.reduceToNat]
  refine ⟨s2, ?_⟩
  rw [joinW_eq]
  unfold pmem_keep.L1
  refine loop1 (σ := Nat × Nat × List Int × List Pend × (Int → Int)) (fun s => .int .i64 s.1) (fun s => [.box (memV vol per pend), .map (.ii s.2.2.2.2), .box (.map 1), .box (memV vol per pend), .box (memV [] [] []), .row .own 0 (.ints .i64 s.2.2.1),
      .box (.agg [.sl false (.ints .i64 vol), .sref false 5 0 0 per.length, .sref false 7 s.2.1 0 s.2.2.2.1.length]), .row .own s.2.1 (.pends s.2.2.2.1)]) (fun s => pend.length - s.1)
    (fun s => s.1 ≤ pend.length ∧ s.2.2.1.length = per.length ∧ s.2.2.2.1.length ≤ s.1 ∧ (∀ j, s.2.2.2.2 j < 9223372036854775808) ∧ app (crashK (pend.drop s.1) s.2.2.2.2) s.2.2.1 = crashW keep per pend) (0, 0, per, [], leftF keep) rfl rfl ⟨Nat.zero_le _, rfl, Nat.le_refl _, leftF_lt hw64, rfl⟩ ?_
  rintro I back ⟨k, v, w, q, left⟩ ⟨hk, hw, hq, hlf, hA⟩
  simp only [] at hk hw hq hA hlf ⊢
  simp only [go_sem, Nat.reduceEqDiff, Nat.reduceLT, Nat.reduceAdd, Nat.reduceSub, Nat.reduceLeDiff, List.reduceReplicate, Int.reduceToNat, hw]
  refine ⟨fun hlt => ⟨by omega, ?_⟩, fun hge => ?_⟩
  · have hkl : k < pend.length := by omega
    rw [drop_cons pend k ⟨0, 0, false⟩ hkl] at hA
    have hr := hrange _ (getD_mem pend k ⟨0, 0, false⟩ hkl)
    generalize pend.getD k ⟨0, 0, false⟩ = p at *
    simp only [crashK] at hA
    try rw [joinW_eq]
    simp only [pmem_Crash_1.K, pmem_Crash_1.H, go_sem, Nat.reduceEqDiff, Nat.reduceLT, Nat.reduceAdd, Nat.reduceSub, Nat.reduceLeDiff, List.reduceReplicate, Int.reduceToNat]
    have hle : (fun j => if j = IntKind.i64.wrap (p.at_.tdiv 8) then IntKind.i64.wrap ((if 1 > left (IntKind.i64.wrap (p.at_.tdiv 8)) then 1 else left (IntKind.i64.wrap (p.at_.tdiv 8))) - 1) else left j) = lessL p left := by
      funext j
      have h1 := hlf (lineOf p.at_)
      show (if j = lineOf p.at_ then IntKind.i64.wrap ((if 1 > left (lineOf p.at_) then 1 else left (lineOf p.at_)) - 1) else left j) = _
      unfold lessL
      split
      · rw [w64 (by split <;> omega) (by split <;> omega)]
        split <;> split <;> omega
      · rfl
    rw [hle]
    have hlf' : ∀ j, lessL p left j < 9223372036854775808 := fun j => by
      have h1 := hlf (lineOf p.at_); have h2 := hlf j
      unfold lessL; split <;> (try split) <;> omega
    refine ⟨by decide, by decide, fun hc => ?_, fun hc => ?_⟩
    · have hc : 0 < left (lineOf p.at_) := hc
      rw [decide_eq_true hc] at hA
      refine ⟨hr, by omega, back (k + 1, v, _, q, lessL p left) (by show _ - (k + 1) < _ - k; omega) (by rw [wnext (by omega)]) rfl ⟨by show k + 1 ≤ _; omega, by show (w.set _ _).length = _; rw [List.length_set]; exact hw, by show q.length ≤ k + 1; omega, hlf', hA⟩⟩
    · have hc : ¬ 0 < left (lineOf p.at_) := hc
      rw [decide_eq_false hc] at hA
      have hl : (q ++ [(⟨p.at_, p.val, p.fl⟩ : Pend)]).length = q.length + 1 := by simp
      refine ⟨by unfold roomy; omega, back (k + 1, v + 1, w, _, lessL p left) (by show _ - (k + 1) < _ - k; omega) (by rw [wnext (by omega)]) rfl ⟨by show k + 1 ≤ _; omega, hw, by show (q ++ _).length ≤ k + 1; omega, hlf', hA⟩⟩
  · obtain rfl : k = pend.length := by omega
    rw [List.drop_length] at hA
    have hA : w = crashW keep per pend := hA
    unfold crashM
    simp only [hb, if_true]
    refine post_val ?_ rfl
    simp only [go_sem, Nat.reduceEqDiff, Nat.reduceLT, Nat.reduceAdd, Nat.reduceSub, Nat.reduceLeDiff, List.reduceReplicate, Int.reduceToNat]
    rw [hA, take_len _ (by rw [crashW_len]; exact Nat.le_refl _)]
end Lam
namespace Lam
open Go Go.Proofs
set_option linter.unusedVariables false
def lamplighterlaw04_awake.loops : Nat → LInfo
  | 9 => ⟨[], [], [], [(5, none), (3, some [59, 62]), (2, none), (4, some [64, 68])], []⟩
  | 11 => ⟨[], [], [], [(3, none), (2, some [72, 74]), (2, none), (2, some [76, 78]), (2, none), (2, some [80, 82]), (2, none), (2, some [84, 86]), (2, none), (2, some [88, 90]), (2, none), (2, some [92, 94]), (2, none), (5, some [96, 101]), (2, none), (5, some [103, 108]), (2, none), (5, some [110, 115]), (2, none), (4, some [117, 121]), (2, none), (4, some [123, 127]), (2, none), (5, some [129, 134]), (2, none), (4, some [136, 140]), (2, none), (2, some [142, 144]), (2, none), (2, some [146, 148])], []⟩
  | _ => ⟨[], [], [], [], []⟩
def lamplighterlaw04_awake.H (c : Ctx) (h : List AObj) (K : AOut → List AObj → Prop) : Prop :=
  runD (makeSliceD T_sl_int (.int .i64 16) (.int .i64 16) h.length) h fun t15 h =>
  callW c (.fn (.func 26) [] []) [t15] h (fun t16 h =>
  runD (extractD t16 0) h fun t17 h =>
  runD (extractD t16 1) h fun t18 h =>
  allocW T_api_Mem h fun t1 h =>
  runH (storeH T_api_Mem h t1 t17) h fun _ h =>
  runD (fitD T_api_Mem (loadD h t1)) h fun t20 h =>
  callW c (.fn (.func 18) [] []) [t20, (.int .i64 0), (.int .i64 7)] h (fun t21 h =>
  runD (extractD t21 0) h fun t22 h =>
  runD (extractD t21 1) h fun t23 h =>
  runH (storeH T_api_Mem h t1 t22) h fun _ h =>
  runD (fitD T_api_Mem (loadD h t1)) h fun t25 h =>
  callW c (.fn (.func 18) [] []) [t25, (.int .i64 8), (.int .i64 9)] h (fun t26 h =>
  runD (extractD t26 0) h fun t27 h =>
  runD (extractD t26 1) h fun t28 h =>
  runH (storeH T_api_Mem h t1 t27) h fun _ h =>
  runD (fitD T_api_Mem (loadD h t1)) h fun t30 h =>
  callW c (.fn (.func 12) [] []) [t30, (.int .i64 0)] h (fun t31 h =>
  runD (extractD t31 0) h fun t32 h =>
  runD (extractD t31 1) h fun t33 h =>
  allocW T_api_Mem h fun t5 h =>
  runH (storeH T_api_Mem h t5 t32) h fun _ h =>
  runD (fitD T_api_Mem (loadD h t5)) h fun t35 h =>
  callW c (.fn (.func 13) [] []) [t35] h (fun t36 h =>
  runD (extractD t36 0) h fun t37 h =>
  runD (extractD t36 1) h fun t38 h =>
  runH (storeH T_api_Mem h t5 t37) h fun _ h =>
  runD (fitD T_api_Mem (loadD h t1)) h fun t40 h =>
  runD (buildSliceD T_sl_int 2 [(0, (.int .i64 0)), (1, (.int .i64 1))] h.length) h fun t41 h =>
  callW c (.fn (.func 15) [] []) [t40, t41] h (fun t42 h =>
  runD (extractD t42 0) h fun t43 h =>
  runD (extractD t42 1) h fun t44 h =>
  runD (fitD T_api_Mem (loadD h t1)) h fun t46 h =>
  callW c (.fn (.func 14) [] []) [t46, (.int .i64 1)] h (fun t47 h =>
  runD (extractD t47 0) h fun t48 h =>
  runD (extractD t47 1) h fun t49 h =>
  allocW T_api_Mem h fun t10 h =>
  runH (storeH T_api_Mem h t10 t48) h fun _ h =>
  runD (buildSliceD T_sl_int 1 [(0, (.int .i64 1))] h.length) h fun t51 h =>
  callW c (.fn (.func 26) [] []) [t51] h (fun t52 h =>
  runD (extractD t52 0) h fun t53 h =>
  runD (extractD t52 1) h fun t54 h =>
  allocW T_api_Mem h fun t12 h =>
  runH (storeH T_api_Mem h t12 t53) h fun _ h =>
  runD (fieldAddrD T_api_Mem t5 1) h fun t55 h =>
  runD (fitD T_sl_int (loadD h t55)) h fun t56 h =>
  runD (lenD T_sl_int h t56) h fun t57 h =>
  runD (binD T_int .neq t57 (.int .i64 16)) h fun t58 h =>
  joinW (fun (J1 : AV → AV → List AObj → Prop) =>
  guardW t58 false
  (runD (lenD T_sl_int h t43) h fun t61 h =>
    runD (binD T_int .neq t61 (.int .i64 16)) h fun t62 h =>
    J1 (.bool false) t62 h)
  (J1 (.bool true) .und h))
  (fun t59 t62 h => runD (pickD t59 (.bool true) t62) h fun t63 h =>
  joinW (fun (J2 : AV → AV → List AObj → Prop) =>
  guardW t63 false
  (runD (fieldAddrD T_api_Mem t10 1) h fun t65 h =>
    runD (fitD T_sl_int (loadD h t65)) h fun t66 h =>
    runD (lenD T_sl_int h t66) h fun t67 h =>
    runD (binD T_int .neq t67 (.int .i64 16)) h fun t68 h =>
    J2 (.bool false) t68 h)
  (J2 (.bool true) .und h))
  (fun t64 t68 h => runD (pickD t64 (.bool true) t68) h fun t69 h =>
  condW t69
  (K (.ret (.bool false)) h)
  (runD (binD T_api_Errno .eql t18 (.int .i64 0)) h fun t71 h =>
  joinW (fun (J3 : AV → AV → List AObj → Prop) =>
  guardW t71 true
  (runD (binD T_api_Errno .eql t23 (.int .i64 0)) h fun t74 h =>
    J3 (.bool true) t74 h)
  (J3 (.bool false) .und h))
  (fun t72 t74 h => runD (pickD t72 t74 (.bool false)) h fun t75 h =>
  joinW (fun (J4 : AV → AV → List AObj → Prop) =>
  guardW t75 true
  (runD (binD T_api_Errno .eql t28 (.int .i64 0)) h fun t78 h =>
    J4 (.bool true) t78 h)
  (J4 (.bool false) .und h))
  (fun t76 t78 h => runD (pickD t76 t78 (.bool false)) h fun t79 h =>
  joinW (fun (J5 : AV → AV → List AObj → Prop) =>
  guardW t79 true
  (runD (binD T_api_Errno .eql t33 (.int .i64 0)) h fun t82 h =>
    J5 (.bool true) t82 h)
  (J5 (.bool false) .und h))
  (fun t80 t82 h => runD (pickD t80 t82 (.bool false)) h fun t83 h =>
  joinW (fun (J6 : AV → AV → List AObj → Prop) =>
  guardW t83 true
  (runD (binD T_api_Errno .eql t38 (.int .i64 0)) h fun t86 h =>
    J6 (.bool true) t86 h)
  (J6 (.bool false) .und h))
  (fun t84 t86 h => runD (pickD t84 t86 (.bool false)) h fun t87 h =>
  joinW (fun (J7 : AV → AV → List AObj → Prop) =>
  guardW t87 true
  (runD (binD T_api_Errno .eql t44 (.int .i64 0)) h fun t90 h =>
    J7 (.bool true) t90 h)
  (J7 (.bool false) .und h))
  (fun t88 t90 h => runD (pickD t88 t90 (.bool false)) h fun t91 h =>
  joinW (fun (J8 : AV → AV → List AObj → Prop) =>
  guardW t91 true
  (runD (binD T_api_Errno .eql t49 (.int .i64 0)) h fun t94 h =>
    J8 (.bool true) t94 h)
  (J8 (.bool false) .und h))
  (fun t92 t94 h => runD (pickD t92 t94 (.bool false)) h fun t95 h =>
  joinW (fun (J9 : AV → AV → List AObj → Prop) =>
  guardW t95 true
  (runD (fieldAddrD T_api_Mem t5 1) h fun t97 h =>
    runD (fitD T_sl_int (loadD h t97)) h fun t98 h =>
    runD (indexAddrD T_sl_int h t98 (.int .i64 0)) h fun t99 h =>
    runD (fitD T_int (loadD h t99)) h fun t100 h =>
    runD (binD T_int .eql t100 (.int .i64 7)) h fun t101 h =>
    J9 (.bool true) t101 h)
  (J9 (.bool false) .und h))
  (fun t96 t101 h => runD (pickD t96 t101 (.bool false)) h fun t102 h =>
  joinW (fun (J10 : AV → AV → List AObj → Prop) =>
  guardW t102 true
  (runD (fieldAddrD T_api_Mem t5 1) h fun t104 h =>
    runD (fitD T_sl_int (loadD h t104)) h fun t105 h =>
    runD (indexAddrD T_sl_int h t105 (.int .i64 8)) h fun t106 h =>
    runD (fitD T_int (loadD h t106)) h fun t107 h =>
    runD (binD T_int .eql t107 (.int .i64 0)) h fun t108 h =>
    J10 (.bool true) t108 h)
  (J10 (.bool false) .und h))
  (fun t103 t108 h => runD (pickD t103 t108 (.bool false)) h fun t109 h =>
  joinW (fun (J11 : AV → AV → List AObj → Prop) =>
  guardW t109 true
  (runD (fieldAddrD T_api_Mem t5 0) h fun t111 h =>
    runD (fitD T_sl_int (loadD h t111)) h fun t112 h =>
    runD (indexAddrD T_sl_int h t112 (.int .i64 8)) h fun t113 h =>
    runD (fitD T_int (loadD h t113)) h fun t114 h =>
    runD (binD T_int .eql t114 (.int .i64 9)) h fun t115 h =>
    J11 (.bool true) t115 h)
  (J11 (.bool false) .und h))
  (fun t110 t115 h => runD (pickD t110 t115 (.bool false)) h fun t116 h =>
  joinW (fun (J12 : AV → AV → List AObj → Prop) =>
  guardW t116 true
  (runD (indexAddrD T_sl_int h t43 (.int .i64 0)) h fun t119 h =>
    runD (fitD T_int (loadD h t119)) h fun t120 h =>
    runD (binD T_int .eql t120 (.int .i64 0)) h fun t121 h =>
    J12 (.bool true) t121 h)
  (J12 (.bool false) .und h))
  (fun t117 t121 h => runD (pickD t117 t121 (.bool false)) h fun t122 h =>
  joinW (fun (J13 : AV → AV → List AObj → Prop) =>
  guardW t122 true
  (runD (indexAddrD T_sl_int h t43 (.int .i64 8)) h fun t125 h =>
    runD (fitD T_int (loadD h t125)) h fun t126 h =>
    runD (binD T_int .eql t126 (.int .i64 9)) h fun t127 h =>
    J13 (.bool true) t127 h)
  (J13 (.bool false) .und h))
  (fun t123 t127 h => runD (pickD t123 t127 (.bool false)) h fun t128 h =>
  joinW (fun (J14 : AV → AV → List AObj → Prop) =>
  guardW t128 true
  (runD (fieldAddrD T_api_Mem t10 1) h fun t130 h =>
    runD (fitD T_sl_int (loadD h t130)) h fun t131 h =>
    runD (indexAddrD T_sl_int h t131 (.int .i64 8)) h fun t132 h =>
    runD (fitD T_int (loadD h t132)) h fun t133 h =>
    runD (binD T_int .eql t133 (.int .i64 9)) h fun t134 h =>
    J14 (.bool true) t134 h)
  (J14 (.bool false) .und h))
  (fun t129 t134 h => runD (pickD t129 t134 (.bool false)) h fun t135 h =>
  joinW (fun (J15 : AV → AV → List AObj → Prop) =>
  guardW t135 true
  (runD (fieldAddrD T_api_Mem t10 2) h fun t137 h =>
    runD (fitD T_sl_api_Pending (loadD h t137)) h fun t138 h =>
    runD (lenD T_sl_api_Pending h t138) h fun t139 h =>
    runD (binD T_int .eql t139 (.int .i64 1)) h fun t140 h =>
    J15 (.bool true) t140 h)
  (J15 (.bool false) .und h))
  (fun t136 t140 h => runD (pickD t136 t140 (.bool false)) h fun t141 h =>
  joinW (fun (J16 : AV → AV → List AObj → Prop) =>
  guardW t141 true
  (runD (binD T_api_Errno .eql t54 (.int .i64 40)) h fun t144 h =>
    J16 (.bool true) t144 h)
  (J16 (.bool false) .und h))
  (fun t142 t144 h => runD (pickD t142 t144 (.bool false)) h fun t145 h =>
  joinW (fun (J17 : AV → AV → List AObj → Prop) =>
  guardW t145 true
  (runD (fitD T_api_Mem (loadD h t5)) h fun t147 h =>
    callW c (.fn (.func 11) [] []) [t147] h (fun t148 h =>
    J17 (.bool true) t148 h)
    (fun v h => K (.pan v) h))
  (J17 (.bool false) .und h))
  (fun t146 t148 h => runD (pickD t146 t148 (.bool false)) h fun t149 h =>
  runD (pickD t149 (.bool true) (.bool false)) h fun t151 h =>
  runD (pickD t151 (.bool true) (.bool false)) h fun t153 h =>
  runD (pickD t153 (.bool true) (.bool false)) h fun t155 h =>
  K (.ret t155) h)))))))))))))))))))
  (fun v h => K (.pan v) h))
  (fun v h => K (.pan v) h))
  (fun v h => K (.pan v) h))
  (fun v h => K (.pan v) h))
  (fun v h => K (.pan v) h))
  (fun v h => K (.pan v) h))
  (fun v h => K (.pan v) h))
  (fun v h => K (.pan v) h)
theorem lamplighterlaw04_awake.eq (F : List (FuncId × Contract)) (S : List (FuncId × Con)) (h : List AObj) (K : AOut → List AObj → Prop) : funW (ctx F S lamplighterlaw04_awake.loops) Try.f9 [] h K = lamplighterlaw04_awake.H (ctx F S lamplighterlaw04_awake.loops)  h K := by kernel_rfl
theorem lamplighterlaw04_awake.at : Try.prog.funcs[9]? = some Try.f9 := by kernel_rfl
theorem lamplighterlaw04_awake.nm : (Try.f9.name == "runtime.NumGoroutine") = false := by kernel_rfl
theorem lamplighterlaw04_awake.bd : Try.f9.body.isNone = false := by kernel_rfl
end Lam
namespace Lam
open Go Go.Proofs
set_option linter.unusedVariables false
set_option linter.unnecessarySimpa false
set_option linter.unusedSimpArgs false
theorem aw4_0 : newM [0, 0, 0, 0, 0, 0, 0, 0, 0, 0, 0, 0, 0, 0, 0, 0] = .tup [memV [0, 0, 0, 0, 0, 0, 0, 0, 0, 0, 0, 0, 0, 0, 0, 0] [0, 0, 0, 0, 0, 0, 0, 0, 0, 0, 0, 0, 0, 0, 0, 0] [], .int .i64 0] := by
  unfold newM; rw [show szB _ = true from by decide +kernel]; rfl
theorem aw4_1 : putM [0, 0, 0, 0, 0, 0, 0, 0, 0, 0, 0, 0, 0, 0, 0, 0] [0, 0, 0, 0, 0, 0, 0, 0, 0, 0, 0, 0, 0, 0, 0, 0] [] 0 7 = .tup [memV [7, 0, 0, 0, 0, 0, 0, 0, 0, 0, 0, 0, 0, 0, 0, 0] [0, 0, 0, 0, 0, 0, 0, 0, 0, 0, 0, 0, 0, 0, 0, 0] [⟨0, 7, false⟩], .int .i64 0] := by
  unfold putM; rw [show placeB _ _ _ _ = true from by decide +kernel]; rfl
theorem aw4_2 : putM [7, 0, 0, 0, 0, 0, 0, 0, 0, 0, 0, 0, 0, 0, 0, 0] [0, 0, 0, 0, 0, 0, 0, 0, 0, 0, 0, 0, 0, 0, 0, 0] [⟨0, 7, false⟩] 8 9 = .tup [memV [7, 0, 0, 0, 0, 0, 0, 0, 9, 0, 0, 0, 0, 0, 0, 0] [0, 0, 0, 0, 0, 0, 0, 0, 0, 0, 0, 0, 0, 0, 0, 0] [⟨0, 7, false⟩, ⟨8, 9, false⟩], .int .i64 0] := by
  unfold putM; rw [show placeB _ _ _ _ = true from by decide +kernel]; rfl
theorem aw4_3 : flushM [7, 0, 0, 0, 0, 0, 0, 0, 9, 0, 0, 0, 0, 0, 0, 0] [0, 0, 0, 0, 0, 0, 0, 0, 0, 0, 0, 0, 0, 0, 0, 0] [⟨0, 7, false⟩, ⟨8, 9, false⟩] 0 = .tup [memV [7, 0, 0, 0, 0, 0, 0, 0, 9, 0, 0, 0, 0, 0, 0, 0] [0, 0, 0, 0, 0, 0, 0, 0, 0, 0, 0, 0, 0, 0, 0, 0] [⟨0, 7, true⟩, ⟨8, 9, false⟩], .int .i64 0] := by
  unfold flushM; rw [show placeB _ _ _ _ = true from by decide +kernel]
  rw [show flushP 0 [⟨0, 7, false⟩, ⟨8, 9, false⟩] = [⟨0, 7, true⟩, ⟨8, 9, false⟩] from by decide +kernel]; rfl
theorem aw4_4 : fenceM fFl (checkB [7, 0, 0, 0, 0, 0, 0, 0, 9, 0, 0, 0, 0, 0, 0, 0] [0, 0, 0, 0, 0, 0, 0, 0, 0, 0, 0, 0, 0, 0, 0, 0] [⟨0, 7, true⟩, ⟨8, 9, false⟩]) [7, 0, 0, 0, 0, 0, 0, 0, 9, 0, 0, 0, 0, 0, 0, 0] [0, 0, 0, 0, 0, 0, 0, 0, 0, 0, 0, 0, 0, 0, 0, 0] [⟨0, 7, true⟩, ⟨8, 9, false⟩] =
    .tup [memV [7, 0, 0, 0, 0, 0, 0, 0, 9, 0, 0, 0, 0, 0, 0, 0] [7, 0, 0, 0, 0, 0, 0, 0, 0, 0, 0, 0, 0, 0, 0, 0] [⟨8, 9, false⟩], .int .i64 0] := by
  unfold fenceM; rw [show checkB _ _ _ = true from by decide +kernel]; rfl
theorem aw4_5 : crashM (checkB [7, 0, 0, 0, 0, 0, 0, 0, 9, 0, 0, 0, 0, 0, 0, 0] [0, 0, 0, 0, 0, 0, 0, 0, 0, 0, 0, 0, 0, 0, 0, 0] [⟨0, 7, false⟩, ⟨8, 9, false⟩]) [0, 1] [0, 0, 0, 0, 0, 0, 0, 0, 0, 0, 0, 0, 0, 0, 0, 0] [⟨0, 7, false⟩, ⟨8, 9, false⟩] =
    .tup [.sl false (.ints .i64 [0, 0, 0, 0, 0, 0, 0, 0, 9, 0, 0, 0, 0, 0, 0, 0]), .int .i64 0] := by
  unfold crashM; rw [show checkB _ _ _ = true from by decide +kernel, show crashW [0, 1] _ _ = [0, 0, 0, 0, 0, 0, 0, 0, 9, 0, 0, 0, 0, 0, 0, 0] from by decide +kernel]; rfl
theorem aw4_6 : fenceM (fLn 1) (placeB [7, 0, 0, 0, 0, 0, 0, 0, 9, 0, 0, 0, 0, 0, 0, 0] [0, 0, 0, 0, 0, 0, 0, 0, 0, 0, 0, 0, 0, 0, 0, 0] [⟨0, 7, false⟩, ⟨8, 9, false⟩] (firstI [7, 0, 0, 0, 0, 0, 0, 0, 9, 0, 0, 0, 0, 0, 0, 0] 1)) [7, 0, 0, 0, 0, 0, 0, 0, 9, 0, 0, 0, 0, 0, 0, 0] [0, 0, 0, 0, 0, 0, 0, 0, 0, 0, 0, 0, 0, 0, 0, 0] [⟨0, 7, false⟩, ⟨8, 9, false⟩] =
    .tup [memV [7, 0, 0, 0, 0, 0, 0, 0, 9, 0, 0, 0, 0, 0, 0, 0] [0, 0, 0, 0, 0, 0, 0, 0, 9, 0, 0, 0, 0, 0, 0, 0] [⟨0, 7, false⟩], .int .i64 0] := by
  unfold fenceM; rw [show placeB _ _ _ _ = true from by decide +kernel, show keepW (fLn 1) _ _ = [0, 0, 0, 0, 0, 0, 0, 0, 9, 0, 0, 0, 0, 0, 0, 0] from by decide +kernel, show keepP (fLn 1) _ = [⟨0, 7, false⟩] from by decide +kernel]; rfl
theorem aw4_7 : newM [1] = .tup [memV [] [] [], .int .i64 40] := by
  unfold newM; rw [show szB _ = false from by decide +kernel]; rfl
theorem aw4_8 : checkB [7, 0, 0, 0, 0, 0, 0, 0, 9, 0, 0, 0, 0, 0, 0, 0] [7, 0, 0, 0, 0, 0, 0, 0, 0, 0, 0, 0, 0, 0, 0, 0] [⟨8, 9, false⟩] = true := by decide +kernel
def lamplighterlaw04_awake.C : Contract
  | [] => some (false, pD True (.bool true))
  | _ => none
set_option maxRecDepth 20000 in
theorem lamplighterlaw04_awake.spec : FSpec Try.prog 9 lamplighterlaw04_awake.C := by
  refine FSpec.of (ctx_ok (F := [(26, pmem_New.C), (18, pmem_Put.C), (12, pmem_Flush.C), (13, pmem_Fence.C), (15, pmem_Crash.C), (14, pmem_Evict.C), (11, pmem_Check.C)]) (S := []) (by simpa using ⟨pmem_New.spec, pmem_Put.spec, pmem_Flush.spec, pmem_Fence.spec, pmem_Crash.spec, pmem_Evict.spec, pmem_Check.spec⟩) (by simp) lamplighterlaw04_awake.loops) lamplighterlaw04_awake.at lamplighterlaw04_awake.nm lamplighterlaw04_awake.bd ?_
  intro vs b S v news e hS
  unfold lamplighterlaw04_awake.C at e
  split at e
  rotate_left
  · cases e
  cases e
  rw [lamplighterlaw04_awake.eq]
  unfold lamplighterlaw04_awake.H
  simp (maxSteps := 4000000) only [go_sem, Nat.reduceEqDiff, Nat.reduceLT, Nat.reduceAdd, Nat.reduceSub, Nat.reduceLeDiff, List.reduceReplicate, Int.reduceToNat, pmem_New.C, pmem_Put.C, pmem_Flush.C, pmem_Fence.C, pmem_Crash.C, pmem_Evict.C, pmem_Check.C, aw4_0, aw4_1, aw4_2, aw4_3, aw4_4, aw4_5, aw4_6, aw4_7, aw4_8]
  and_intros
  all_goals first | exact post_val rfl rfl | (simp [smallM, roomy, i64s]; done)
end Lam
namespace Lam
open Go Go.Proofs
set_option linter.unusedVariables false
def lamplighterref02_Numbers.loops : Nat → LInfo
  | 4 => ⟨[5], [false], [0, 1], [], []⟩
  | _ => ⟨[], [], [], [], []⟩
def lamplighterref02_Numbers.L1 (c : Ctx) (J1 : List AObj → Prop) (K : AOut → List AObj → Prop) (lv : List AV) (h0 : List AObj) (n0 : Nat) (c0 : AV) (c1 : AV) : Prop :=
  ∃ I : Nat → List AV → List AObj → Prop, (∃ n, I n lv h0) ∧ ∀ n h, ∀ t5, I n [t5] h →
    runD (lenD T_sl_int h c0) h fun t13 h =>
    runD (binD T_int .lss t5 t13) h fun t14 h =>
    condW t14
    (runD (indexAddrD T_sl_int h c0 t5) h fun t19 h =>
    runD (fitD T_int (loadD h t19)) h fun t20 h =>
    runD (indexAddrD T_sl_int h c1 t5) h fun t23 h =>
    runD (fitD T_int (loadD h t23)) h fun t24 h =>
    runD (binD T_int .neq t20 t24) h fun t25 h =>
    condW t25
    (K (.ret (.bool false)) h)
    (runD (binD T_int .add t5 (.int .i64 1)) h fun t16 h =>
    (∃ m, m < n ∧ I m (AV.norms n0 h [t16]) (normH n0 h)) ∧ AV.norms n0 h [c0, c1] = [c0, c1]))
    (J1 h)
def lamplighterref02_Numbers.H (c : Ctx) (t0 : AV) (t1 : AV) (h : List AObj) (K : AOut → List AObj → Prop) : Prop :=
  runD (lenD T_sl_int h t0) h fun t7 h =>
  runD (lenD T_sl_int h t1) h fun t9 h =>
  runD (binD T_int .neq t7 t9) h fun t10 h =>
  condW t10
  (K (.ret (.bool false)) h)
  (joinW (fun (J1 : List AObj → Prop) =>
  promV [false] [(.int .i64 0)] h fun lv h => lamplighterref02_Numbers.L1 c J1 K (AV.norms h.length h lv) (normH h.length h) h.length (AV.norm h.length h t0) (AV.norm h.length h t1))
  (fun h => K (.ret (.bool true)) h))
theorem lamplighterref02_Numbers.eq (F : List (FuncId × Contract)) (S : List (FuncId × Con)) (t0 t1 : AV) (h : List AObj) (K : AOut → List AObj → Prop) : funW (ctx F S lamplighterref02_Numbers.loops) Try.f16 [t0, t1] h K = lamplighterref02_Numbers.H (ctx F S lamplighterref02_Numbers.loops) t0 t1 h K := by kernel_rfl
theorem lamplighterref02_Numbers.at : Try.prog.funcs[16]? = some Try.f16 := by kernel_rfl
theorem lamplighterref02_Numbers.nm : (Try.f16.name == "runtime.NumGoroutine") = false := by kernel_rfl
theorem lamplighterref02_Numbers.bd : Try.f16.body.isNone = false := by kernel_rfl
end Lam
namespace Lam
open Go Go.Proofs
set_option linter.unusedVariables false
set_option linter.unnecessarySimpa false
set_option linter.unusedSimpArgs false
def lamplighterref02_Numbers.C : Contract
  | [.sl _ (.ints .i64 a), .sl _ (.ints .i64 b)] => some (false, pD (roomy a.length) (.bool (decide (a = b))))
  | _ => none
set_option maxRecDepth 20000 in
theorem lamplighterref02_Numbers.spec : FSpec Try.prog 16 lamplighterref02_Numbers.C := by
  refine FSpec.of (ctx_ok (F := []) (S := []) (by simp) (by simp) lamplighterref02_Numbers.loops) lamplighterref02_Numbers.at lamplighterref02_Numbers.nm lamplighterref02_Numbers.bd ?_
  intro vs b S v news e hS
  unfold lamplighterref02_Numbers.C at e
  split at e
  rotate_left
  · cases e
  cases e
  rw [lamplighterref02_Numbers.eq]
  unfold lamplighterref02_Numbers.H
  simp (maxSteps := 4000000) only [go_sem, Nat.reduceEqDiff, Nat.reduceLT, Nat.reduceAdd, Nat.reduceSub, Nat.reduceLeDiff, List.reduceReplicate, Int.reduceToNat]
  rename_i a _ b
  unfold roomy at hS
  refine ⟨fun hne => ?_, fun heq => ?_⟩
  · have : decide (a = b) = false := by rw [decide_eq_false_iff_not]; rintro rfl; exact hne rfl
    rw [this]; exact post_val rfl rfl
  rw [joinW_eq]
  unfold lamplighterref02_Numbers.L1
  have hlen : a.length = b.length := by omega
  refine loop1 (fun k : Nat => .int .i64 k) (fun _ => []) (fun k => a.length - k) (fun k => k ≤ a.length ∧ ∀ i, i < k → a.getD i 0 = b.getD i 0) 0 rfl rfl ⟨Nat.zero_le _, fun i hi => absurd hi (Nat.not_lt_zero i)⟩ ?_
  rintro I back k ⟨hk, hall⟩
  simp only [go_sem, Nat.reduceEqDiff, Nat.reduceLT, Nat.reduceAdd, Nat.reduceSub, Nat.reduceLeDiff, List.reduceReplicate, Int.reduceToNat]
  refine ⟨fun hlt => ⟨by omega, by omega, fun h0 => ?_, fun h0 => ?_⟩, fun hge => ?_⟩
  · have : decide (a = b) = false := by rw [decide_eq_false_iff_not]; rintro rfl; exact h0 rfl
    rw [this]; exact post_val rfl rfl
  · refine back (k + 1) (by omega) (by rw [wnext (by omega)]) rfl ⟨by omega, fun i hi => ?_⟩
    by_cases e : i = k
    · subst e; exact h0
    · exact hall i (by omega)
  · rw [decide_eq_true (ext_d 0 hlen fun i hi => hall i (by omega))]; exact post_val rfl rfl
end Lam
namespace Lam
open Go Go.Proofs
set_option linter.unusedVariables false
def lamplighterref04_Few.loops : Nat → LInfo
  | 1 => ⟨[], [], [], [(5, none), (4, some [7, 11]), (2, none), (4, some [13, 17])], []⟩
  | _ => ⟨[], [], [], [], []⟩
def lamplighterref04_Few.H (c : Ctx) (t0 : AV) (h : List AObj) (K : AOut → List AObj → Prop) : Prop :=
  boxW T_api_Mem t0 h fun t1 h =>
  runD (fieldAddrD T_api_Mem t1 0) h fun t3 h =>
  runD (fitD T_sl_int (loadD h t3)) h fun t4 h =>
  runD (lenD T_sl_int h t4) h fun t5 h =>
  runD (binD T_int .leq t5 (.int .i64 300)) h fun t6 h =>
  joinW (fun (J1 : AV → AV → List AObj → Prop) =>
  guardW t6 true
  (runD (fieldAddrD T_api_Mem t1 1) h fun t8 h =>
    runD (fitD T_sl_int (loadD h t8)) h fun t9 h =>
    runD (lenD T_sl_int h t9) h fun t10 h =>
    runD (binD T_int .leq t10 (.int .i64 300)) h fun t11 h =>
    J1 (.bool true) t11 h)
  (J1 (.bool false) .und h))
  (fun t7 t11 h => runD (pickD t7 t11 (.bool false)) h fun t12 h =>
  joinW (fun (J2 : AV → AV → List AObj → Prop) =>
  guardW t12 true
  (runD (fieldAddrD T_api_Mem t1 2) h fun t14 h =>
    runD (fitD T_sl_api_Pending (loadD h t14)) h fun t15 h =>
    runD (lenD T_sl_api_Pending h t15) h fun t16 h =>
    runD (binD T_int .leq t16 (.int .i64 100)) h fun t17 h =>
    J2 (.bool true) t17 h)
  (J2 (.bool false) .und h))
  (fun t13 t17 h => runD (pickD t13 t17 (.bool false)) h fun t18 h =>
  K (.ret t18) h))
def lamplighterref04_Same.loops : Nat → LInfo
  | 3 => ⟨[], [], [], [(3, none), (2, some [20, 22]), (2, none), (7, some [24, 31])], []⟩
  | 6 => ⟨[7], [false], [2, 3], [], []⟩
  | _ => ⟨[], [], [], [], []⟩
def lamplighterref04_Same.L1 (c : Ctx) (J3 : List AObj → Prop) (K : AOut → List AObj → Prop) (lv : List AV) (h0 : List AObj) (n0 : Nat) (c2 : AV) (c3 : AV) : Prop :=
  ∃ I : Nat → List AV → List AObj → Prop, (∃ n, I n lv h0) ∧ ∀ n h, ∀ t7, I n [t7] h →
    runD (fieldAddrD T_api_Mem c2 2) h fun t34 h =>
    runD (fitD T_sl_api_Pending (loadD h t34)) h fun t35 h =>
    runD (lenD T_sl_api_Pending h t35) h fun t36 h =>
    runD (binD T_int .lss t7 t36) h fun t37 h =>
    condW t37
    (runD (fieldAddrD T_api_Mem c2 2) h fun t40 h =>
    runD (fitD T_sl_api_Pending (loadD h t40)) h fun t41 h =>
    runD (indexAddrD T_sl_api_Pending h t41 t7) h fun t43 h =>
    runD (fitD T_api_Pending (loadD h t43)) h fun t44 h =>
    runD (fieldAddrD T_api_Mem c3 2) h fun t45 h =>
    runD (fitD T_sl_api_Pending (loadD h t45)) h fun t46 h =>
    runD (indexAddrD T_sl_api_Pending h t46 t7) h fun t48 h =>
    runD (fitD T_api_Pending (loadD h t48)) h fun t49 h =>
    runD (binD T_api_Pending .neq t44 t49) h fun t50 h =>
    condW t50
    (K (.ret (.bool false)) h)
    (runD (binD T_int .add t7 (.int .i64 1)) h fun t39 h =>
    (∃ m, m < n ∧ I m (AV.norms n0 h [t39]) (normH n0 h)) ∧ AV.norms n0 h [c2, c3] = [c2, c3]))
    (J3 h)
def lamplighterref04_Same.H (c : Ctx) (t0 : AV) (t1 : AV) (h : List AObj) (K : AOut → List AObj → Prop) : Prop :=
  boxW T_api_Mem t0 h fun t2 h =>
  boxW T_api_Mem t1 h fun t3 h =>
  runD (fieldAddrD T_api_Mem t2 0) h fun t8 h =>
  runD (fitD T_sl_int (loadD h t8)) h fun t9 h =>
  runD (fieldAddrD T_api_Mem t3 0) h fun t10 h =>
  runD (fitD T_sl_int (loadD h t10)) h fun t11 h =>
  callW c (.fn (.func 16) [] []) [t9, t11] h (fun t12 h =>
  runD (fieldAddrD T_api_Mem t2 1) h fun t13 h =>
  runD (fitD T_sl_int (loadD h t13)) h fun t14 h =>
  runD (fieldAddrD T_api_Mem t3 1) h fun t15 h =>
  runD (fitD T_sl_int (loadD h t15)) h fun t16 h =>
  callW c (.fn (.func 16) [] []) [t14, t16] h (fun t17 h =>
  runD (unD .not t12) h fun t19 h =>
  joinW (fun (J1 : AV → AV → List AObj → Prop) =>
  guardW t19 false
  (runD (unD .not t17) h fun t22 h =>
    J1 (.bool false) t22 h)
  (J1 (.bool true) .und h))
  (fun t20 t22 h => runD (pickD t20 (.bool true) t22) h fun t23 h =>
  joinW (fun (J2 : AV → AV → List AObj → Prop) =>
  guardW t23 false
  (runD (fieldAddrD T_api_Mem t2 2) h fun t25 h =>
    runD (fitD T_sl_api_Pending (loadD h t25)) h fun t26 h =>
    runD (lenD T_sl_api_Pending h t26) h fun t27 h =>
    runD (fieldAddrD T_api_Mem t3 2) h fun t28 h =>
    runD (fitD T_sl_api_Pending (loadD h t28)) h fun t29 h =>
    runD (lenD T_sl_api_Pending h t29) h fun t30 h =>
    runD (binD T_int .neq t27 t30) h fun t31 h =>
    J2 (.bool false) t31 h)
  (J2 (.bool true) .und h))
  (fun t24 t31 h => runD (pickD t24 (.bool true) t31) h fun t32 h =>
  condW t32
  (K (.ret (.bool false)) h)
  (joinW (fun (J3 : List AObj → Prop) =>
  promV [false] [(.int .i64 0)] h fun lv h => lamplighterref04_Same.L1 c J3 K (AV.norms h.length h lv) (normH h.length h) h.length (AV.norm h.length h t2) (AV.norm h.length h t3))
  (fun h => K (.ret (.bool true)) h)))))
  (fun v h => K (.pan v) h))
  (fun v h => K (.pan v) h)
def lamplighterref04_Put.loops : Nat → LInfo
  | 2 => ⟨[], [], [], [(3, none), (2, some [13, 15]), (2, none), (5, some [17, 22])], []⟩
  | _ => ⟨[], [], [], [], []⟩
def lamplighterref04_Put.H (c : Ctx) (t0 : AV) (t1 : AV) (t2 : AV) (h : List AObj) (K : AOut → List AObj → Prop) : Prop :=
  boxW T_api_Mem t0 h fun t3 h =>
  allocW T_api_Mem h fun t6 h =>
  runD (fitD T_api_Mem (loadD h t3)) h fun t9 h =>
  callW c (.fn (.func 28) [] []) [t9] h (fun t10 h =>
  runD (unD .not t10) h fun t12 h =>
  joinW (fun (J1 : AV → AV → List AObj → Prop) =>
  guardW t12 false
  (runD (binD T_int .lss t1 (.int .i64 0)) h fun t15 h =>
    J1 (.bool false) t15 h)
  (J1 (.bool true) .und h))
  (fun t13 t15 h => runD (pickD t13 (.bool true) t15) h fun t16 h =>
  joinW (fun (J2 : AV → AV → List AObj → Prop) =>
  guardW t16 false
  (runD (fieldAddrD T_api_Mem t3 0) h fun t19 h =>
    runD (fitD T_sl_int (loadD h t19)) h fun t20 h =>
    runD (lenD T_sl_int h t20) h fun t21 h =>
    runD (binD T_int .geq t1 t21) h fun t22 h =>
    J2 (.bool false) t22 h)
  (J2 (.bool true) .und h))
  (fun t17 t22 h => runD (pickD t17 (.bool true) t22) h fun t23 h =>
  condW t23
  (runD (fitD T_api_Mem (loadD h t3)) h fun t24 h =>
    runH (storeH T_api_Mem h t6 t24) h fun _ h =>
    loadRes (fitD T_api_Mem (loadD h t6)) fun r0 => K (.ret (.tup [r0, (.int .i64 40)])) h)
  (runD (fieldAddrD T_api_Mem t3 0) h fun t25 h =>
  runD (fitD T_sl_int (loadD h t25)) h fun t26 h =>
  callW c.noS (.fn (.func 41) [] []) [t26, t1, t2] h (fun t29 h =>
  runD (fieldAddrD T_api_Mem t3 1) h fun t30 h =>
  runD (fitD T_sl_int (loadD h t30)) h fun t31 h =>
  runD (buildSliceD T_sl_api_Pending 0 [] h.length) h fun t32 h =>
  runD (fieldAddrD T_api_Mem t3 2) h fun t33 h =>
  runD (fitD T_sl_api_Pending (loadD h t33)) h fun t34 h =>
  runDM (appendD T_sl_api_Pending h t32 t34 h.length) (appendH T_sl_api_Pending h t32 t34) h fun t35 h =>
  runD (buildD T_api_Pending [(0, t1), (1, t2)]) h fun t38 h =>
  runD (buildSliceD T_sl_api_Pending 1 [(0, t38)] h.length) h fun t39 h =>
  runDM (appendD T_sl_api_Pending h t35 t39 h.length) (appendH T_sl_api_Pending h t35 t39) h fun t40 h =>
  runD (buildD T_api_Mem [(0, t29), (1, t31), (2, t40)]) h fun t41 h =>
  runH (storeH T_api_Mem h t6 t41) h fun _ h =>
  sepB t32 [t30] = true ∧ sepB t35 [t30] = true ∧ loadRes (fitD T_api_Mem (loadD h t6)) fun r0 => K (.ret (.tup [r0, (.int .i64 0)])) h)
  (fun _ _ => False)))))
  (fun v h => K (.pan v) h)
def lamplighterref04_Flush.loops : Nat → LInfo
  | 2 => ⟨[], [], [], [(3, none), (4, some [14, 18])], []⟩
  | 6 => ⟨[8], [false], [1, 2, 4, 7], [], [7]⟩
  | 9 => ⟨[], [], [], [(9, none), (5, some [46, 51])], []⟩
  | _ => ⟨[], [], [], [], []⟩
def lamplighterref04_Flush.L1 (c : Ctx) (J2 : AV → AV → List AObj → Prop) (K : AOut → List AObj → Prop) (lv : List AV) (h0 : List AObj) (n0 : Nat) (c1 : AV) (c2 : AV) (c4 : AV) (c7 : AV) : Prop :=
  ∃ I : Nat → List AV → List AObj → Prop, (∃ n, I n lv h0) ∧ ∀ n h, ∀ t8, I n [t8] h →
    runD (fieldAddrD T_api_Mem c2 2) h fun t27 h =>
    runD (fitD T_sl_api_Pending (loadD h t27)) h fun t28 h =>
    runD (lenD T_sl_api_Pending h t28) h fun t29 h =>
    runD (binD T_int .lss t8 t29) h fun t30 h =>
    condW t30
    (runD (fieldAddrD T_api_Mem c2 2) h fun t33 h =>
    runD (fitD T_sl_api_Pending (loadD h t33)) h fun t34 h =>
    runD (indexAddrD T_sl_api_Pending h t34 t8) h fun t36 h =>
    runD (fitD T_api_Pending (loadD h t36)) h fun t37 h =>
    allocW T_api_Pending h fun t9 h =>
    runH (storeH T_api_Pending h t9 t37) h fun _ h =>
    runD (fieldAddrD T_api_Mem c7 2) h fun t38 h =>
    runD (fitD T_sl_api_Pending (loadD h t38)) h fun t39 h =>
    runD (fieldAddrD T_api_Pending t9 0) h fun t40 h =>
    runD (fitD T_int (loadD h t40)) h fun t41 h =>
    runD (fieldAddrD T_api_Pending t9 1) h fun t42 h =>
    runD (fitD T_int (loadD h t42)) h fun t43 h =>
    runD (fieldAddrD T_api_Pending t9 2) h fun t44 h =>
    runD (fitD T_bool (loadD h t44)) h fun t45 h =>
    joinW (fun (J3 : AV → AV → List AObj → Prop) =>
    guardW t45 false
    (runD (fieldAddrD T_api_Pending t9 0) h fun t47 h =>
      runD (fitD T_int (loadD h t47)) h fun t48 h =>
      runD (binD T_int .quo t48 (.int .i64 8)) h fun t49 h =>
      runD (binD T_int .eql t49 c1) h fun t51 h =>
      J3 (.bool false) t51 h)
    (J3 (.bool true) .und h))
    (fun t46 t51 h => runD (pickD t46 (.bool true) t51) h fun t52 h =>
    runD (buildD T_api_Pending [(0, t41), (1, t43), (2, t52)]) h fun t53 h =>
    runD (buildSliceD T_sl_api_Pending 1 [(0, t53)] h.length) h fun t54 h =>
    runDM (appendD T_sl_api_Pending h t39 t54 h.length) (appendH T_sl_api_Pending h t39 t54) h fun t55 h =>
    runD (fieldAddrD T_api_Mem c7 2) h fun t56 h =>
    runH (storeH T_sl_api_Pending h t56 t55) h fun _ h =>
    runD (binD T_int .add t8 (.int .i64 1)) h fun t32 h =>
    (∃ m, m < n ∧ I m (AV.norms n0 h [t32]) (normH n0 h)) ∧ AV.norms n0 h [c1, c2, c4, c7] = [c1, c2, c4, c7]))
    (J2 c4 c7 h)
def lamplighterref04_Flush.H (c : Ctx) (t0 : AV) (t1 : AV) (h : List AObj) (K : AOut → List AObj → Prop) : Prop :=
  boxW T_api_Mem t0 h fun t2 h =>
  allocW T_api_Mem h fun t4 h =>
  runD (fitD T_api_Mem (loadD h t2)) h fun t10 h =>
  callW c (.fn (.func 28) [] []) [t10] h (fun t11 h =>
  runD (unD .not t11) h fun t13 h =>
  joinW (fun (J1 : AV → AV → List AObj → Prop) =>
  guardW t13 false
  (runD (fitD T_api_Mem (loadD h t2)) h fun t15 h =>
    callW c (.fn (.func 42) [] []) [t15, t1] h (fun t17 h =>
    runD (unD .not t17) h fun t18 h =>
    J1 (.bool false) t18 h)
    (fun v h => K (.pan v) h))
  (J1 (.bool true) .und h))
  (fun t14 t18 h => runD (pickD t14 (.bool true) t18) h fun t19 h =>
  condW t19
  (runD (fitD T_api_Mem (loadD h t2)) h fun t20 h =>
    runH (storeH T_api_Mem h t4 t20) h fun _ h =>
    loadRes (fitD T_api_Mem (loadD h t4)) fun r0 => K (.ret (.tup [r0, (.int .i64 40)])) h)
  (runD (fieldAddrD T_api_Mem t2 0) h fun t21 h =>
  runD (fitD T_sl_int (loadD h t21)) h fun t22 h =>
  runD (fieldAddrD T_api_Mem t2 1) h fun t23 h =>
  runD (fitD T_sl_int (loadD h t23)) h fun t24 h =>
  runD (buildD T_api_Mem [(0, t22), (1, t24)]) h fun t25 h =>
  allocW T_api_Mem h fun t7 h =>
  runH (storeH T_api_Mem h t7 t25) h fun _ h =>
  joinW (fun (J2 : AV → AV → List AObj → Prop) =>
  promV [false] [(.int .i64 0)] (boxH [t7] h) fun lv h => lamplighterref04_Flush.L1 c J2 K (AV.norms h.length h lv) (normH h.length h) h.length (AV.norm h.length h t1) (AV.norm h.length h t2) (AV.norm h.length h t4) (AV.norm h.length h t7))
  (fun t4 t7 h => runD (fitD T_api_Mem (loadD h t7)) h fun t57 h =>
  runH (storeH T_api_Mem h t4 t57) h fun _ h =>
  loadRes (fitD T_api_Mem (loadD h t4)) fun r0 => K (.ret (.tup [r0, (.int .i64 0)])) h))))
  (fun v h => K (.pan v) h)
def lamplighterref04_Fence.loops : Nat → LInfo
  | 6 => ⟨[5, 6], [true, false], [1, 2], [], []⟩
  | _ => ⟨[], [], [], [], []⟩
def lamplighterref04_Fence.L1 (c : Ctx) (J1 : AV → AV → AV → List AObj → Prop) (K : AOut → List AObj → Prop) (lv : List AV) (h0 : List AObj) (n0 : Nat) (c1 : AV) (c2 : AV) : Prop :=
  ∃ I : Nat → List AV → List AObj → Prop, (∃ n, I n lv h0) ∧ ∀ n h, ∀ t5, ∀ t6, I n [t5, t6] h →
    runD (fieldAddrD T_api_Mem c1 2) h fun t13 h =>
    runD (fitD T_sl_api_Pending (loadD h t13)) h fun t14 h =>
    runD (lenD T_sl_api_Pending h t14) h fun t15 h =>
    runD (binD T_int .lss t6 t15) h fun t16 h =>
    condW t16
    (runD (fieldAddrD T_api_Mem c1 2) h fun t20 h =>
    runD (fitD T_sl_api_Pending (loadD h t20)) h fun t21 h =>
    runD (indexAddrD T_sl_api_Pending h t21 t6) h fun t23 h =>
    runD (fieldAddrD T_api_Pending t23 2) h fun t24 h =>
    runD (fitD T_bool (loadD h t24)) h fun t25 h =>
    runD (buildSliceD T_sl_bool 1 [(0, t25)] h.length) h fun t26 h =>
    runDM (appendD T_sl_bool h t5 t26 h.length) (appendH T_sl_bool h t5 t26) h fun t27 h =>
    runD (binD T_int .add t6 (.int .i64 1)) h fun t18 h =>
    (∃ m, m < n ∧ I m (AV.norms n0 h [t27, t18]) (normH n0 h)) ∧ AV.norms n0 h [c1, c2] = [c1, c2])
    (J1 c1 c2 t5 h)
def lamplighterref04_Fence.H (c : Ctx) (t0 : AV) (h : List AObj) (K : AOut → List AObj → Prop) : Prop :=
  boxW T_api_Mem t0 h fun t1 h =>
  allocW T_api_Mem h fun t2 h =>
  runD (fitD T_api_Mem (loadD h t1)) h fun t7 h =>
  callW c (.fn (.func 28) [] []) [t7] h (fun t8 h =>
  runD (unD .not t8) h fun t10 h =>
  condW t10
  (runD (fitD T_api_Mem (loadD h t1)) h fun t11 h =>
    runH (storeH T_api_Mem h t2 t11) h fun _ h =>
    loadRes (fitD T_api_Mem (loadD h t2)) fun r0 => K (.ret (.tup [r0, (.int .i64 40)])) h)
  (joinW (fun (J1 : AV → AV → AV → List AObj → Prop) =>
  promV [true, false] [(.sl true (.bools [])), (.int .i64 0)] h fun lv h => lamplighterref04_Fence.L1 c J1 K (AV.norms h.length h lv) (normH h.length h) h.length (AV.norm h.length h t1) (AV.norm h.length h t2))
  (fun t1 t2 t5 h => runD (fitD T_api_Mem (loadD h t1)) h fun t28 h =>
  callW c (.fn (.func 43) [] []) [t28, t5] h (fun t30 h =>
  runH (storeH T_api_Mem h t2 t30) h fun _ h =>
  loadRes (fitD T_api_Mem (loadD h t2)) fun r0 => K (.ret (.tup [r0, (.int .i64 0)])) h)
  (fun v h => K (.pan v) h))))
  (fun v h => K (.pan v) h)
def lamplighterref04_Evict.loops : Nat → LInfo
  | 2 => ⟨[], [], [], [(3, none), (4, some [13, 17])], []⟩
  | 6 => ⟨[7, 8], [true, false], [1, 2, 4], [], []⟩
  | _ => ⟨[], [], [], [], []⟩
def lamplighterref04_Evict.L1 (c : Ctx) (J2 : AV → AV → AV → List AObj → Prop) (K : AOut → List AObj → Prop) (lv : List AV) (h0 : List AObj) (n0 : Nat) (c1 : AV) (c2 : AV) (c4 : AV) : Prop :=
  ∃ I : Nat → List AV → List AObj → Prop, (∃ n, I n lv h0) ∧ ∀ n h, ∀ t7, ∀ t8, I n [t7, t8] h →
    runD (fieldAddrD T_api_Mem c2 2) h fun t21 h =>
    runD (fitD T_sl_api_Pending (loadD h t21)) h fun t22 h =>
    runD (lenD T_sl_api_Pending h t22) h fun t23 h =>
    runD (binD T_int .lss t8 t23) h fun t24 h =>
    condW t24
    (runD (fieldAddrD T_api_Mem c2 2) h fun t28 h =>
    runD (fitD T_sl_api_Pending (loadD h t28)) h fun t29 h =>
    runD (indexAddrD T_sl_api_Pending h t29 t8) h fun t31 h =>
    runD (fieldAddrD T_api_Pending t31 0) h fun t32 h =>
    runD (fitD T_int (loadD h t32)) h fun t33 h =>
    runD (binD T_int .quo t33 (.int .i64 8)) h fun t34 h =>
    runD (binD T_int .eql t34 c1) h fun t36 h =>
    runD (buildSliceD T_sl_bool 1 [(0, t36)] h.length) h fun t37 h =>
    runDM (appendD T_sl_bool h t7 t37 h.length) (appendH T_sl_bool h t7 t37) h fun t38 h =>
    runD (binD T_int .add t8 (.int .i64 1)) h fun t26 h =>
    (∃ m, m < n ∧ I m (AV.norms n0 h [t38, t26]) (normH n0 h)) ∧ AV.norms n0 h [c1, c2, c4] = [c1, c2, c4])
    (J2 c2 c4 t7 h)
def lamplighterref04_Evict.H (c : Ctx) (t0 : AV) (t1 : AV) (h : List AObj) (K : AOut → List AObj → Prop) : Prop :=
  boxW T_api_Mem t0 h fun t2 h =>
  allocW T_api_Mem h fun t4 h =>
  runD (fitD T_api_Mem (loadD h t2)) h fun t9 h =>
  callW c (.fn (.func 28) [] []) [t9] h (fun t10 h =>
  runD (unD .not t10) h fun t12 h =>
  joinW (fun (J1 : AV → AV → List AObj → Prop) =>
  guardW t12 false
  (runD (fitD T_api_Mem (loadD h t2)) h fun t14 h =>
    callW c (.fn (.func 42) [] []) [t14, t1] h (fun t16 h =>
    runD (unD .not t16) h fun t17 h =>
    J1 (.bool false) t17 h)
    (fun v h => K (.pan v) h))
  (J1 (.bool true) .und h))
  (fun t13 t17 h => runD (pickD t13 (.bool true) t17) h fun t18 h =>
  condW t18
  (runD (fitD T_api_Mem (loadD h t2)) h fun t19 h =>
    runH (storeH T_api_Mem h t4 t19) h fun _ h =>
    loadRes (fitD T_api_Mem (loadD h t4)) fun r0 => K (.ret (.tup [r0, (.int .i64 40)])) h)
  (joinW (fun (J2 : AV → AV → AV → List AObj → Prop) =>
  promV [true, false] [(.sl true (.bools [])), (.int .i64 0)] h fun lv h => lamplighterref04_Evict.L1 c J2 K (AV.norms h.length h lv) (normH h.length h) h.length (AV.norm h.length h t1) (AV.norm h.length h t2) (AV.norm h.length h t4))
  (fun t2 t4 t7 h => runD (fitD T_api_Mem (loadD h t2)) h fun t39 h =>
  callW c (.fn (.func 43) [] []) [t39, t7] h (fun t41 h =>
  runH (storeH T_api_Mem h t4 t41) h fun _ h =>
  loadRes (fitD T_api_Mem (loadD h t4)) fun r0 => K (.ret (.tup [r0, (.int .i64 0)])) h)
  (fun v h => K (.pan v) h)))))
  (fun v h => K (.pan v) h)
def lamplighterref04_Sync.loops : Nat → LInfo
  | _ => ⟨[], [], [], [], []⟩
def lamplighterref04_Sync.H (c : Ctx) (t0 : AV) (h : List AObj) (K : AOut → List AObj → Prop) : Prop :=
  boxW T_api_Mem t0 h fun t1 h =>
  allocW T_api_Mem h fun t2 h =>
  runD (fitD T_api_Mem (loadD h t1)) h fun t5 h =>
  callW c (.fn (.func 28) [] []) [t5] h (fun t6 h =>
  runD (unD .not t6) h fun t8 h =>
  condW t8
  (runD (fitD T_api_Mem (loadD h t1)) h fun t9 h =>
    runH (storeH T_api_Mem h t2 t9) h fun _ h =>
    loadRes (fitD T_api_Mem (loadD h t2)) fun r0 => K (.ret (.tup [r0, (.int .i64 40)])) h)
  (runD (fieldAddrD T_api_Mem t1 0) h fun t10 h =>
  runD (fitD T_sl_int (loadD h t10)) h fun t11 h =>
  runD (fieldAddrD T_api_Mem t1 0) h fun t12 h =>
  runD (fitD T_sl_int (loadD h t12)) h fun t13 h =>
  runD (buildD T_api_Mem [(0, t11), (1, t13)]) h fun t14 h =>
  runH (storeH T_api_Mem h t2 t14) h fun _ h =>
  loadRes (fitD T_api_Mem (loadD h t2)) fun r0 => K (.ret (.tup [r0, (.int .i64 0)])) h))
  (fun v h => K (.pan v) h)
def lamplighterref04_Crash.loops : Nat → LInfo
  | 6 => ⟨[7, 8], [true, false], [1, 2], [], []⟩
  | 11 => ⟨[10, 11], [false, false], [1, 2, 7, 8, 9], [], []⟩
  | 15 => ⟨[], [], [], [(6, none), (10, some [51, 61])], []⟩
  | _ => ⟨[], [], [], [], []⟩
def lamplighterref04_Crash.L2 (c : Ctx) (J3 : AV → AV → AV → AV → AV → AV → List AObj → Prop) (K : AOut → List AObj → Prop) (lv : List AV) (h0 : List AObj) (n0 : Nat) (c1 : AV) (c2 : AV) (c7 : AV) (c8 : AV) (c9 : AV) : Prop :=
  ∃ I : Nat → List AV → List AObj → Prop, (∃ n, I n lv h0) ∧ ∀ n h, ∀ t10, ∀ t11, I n [t10, t11] h →
    runD (binD T_int .lss t11 c8) h fun t32 h =>
    condW t32
    (runD (fieldAddrD T_api_Mem c2 2) h fun t35 h =>
    runD (fitD T_sl_api_Pending (loadD h t35)) h fun t36 h =>
    runD (indexAddrD T_sl_api_Pending h t36 t11) h fun t38 h =>
    runD (fieldAddrD T_api_Pending t38 0) h fun t39 h =>
    runD (fitD T_int (loadD h t39)) h fun t40 h =>
    runD (binD T_int .quo t40 (.int .i64 8)) h fun t41 h =>
    runD (binD T_int .eql t41 c9) h fun t43 h =>
    joinW (fun (J4 : AV → List AObj → Prop) =>
    condW t43
    (runD (binD T_int .add t10 (.int .i64 1)) h fun t45 h =>
      J4 t45 h)
    (J4 t10 h))
    (fun t10 h => runD (binD T_int .add t11 (.int .i64 1)) h fun t34 h =>
    (∃ m, m < n ∧ I m (AV.norms n0 h [t10, t34]) (normH n0 h)) ∧ AV.norms n0 h [c1, c2, c7, c8, c9] = [c1, c2, c7, c8, c9]))
    (J3 c1 c2 c7 c8 c9 t10 h)
def lamplighterref04_Crash.L1 (c : Ctx) (J1 : AV → AV → List AObj → Prop) (K : AOut → List AObj → Prop) (lv : List AV) (h0 : List AObj) (n0 : Nat) (c1 : AV) (c2 : AV) : Prop :=
  ∃ I : Nat → List AV → List AObj → Prop, (∃ n, I n lv h0) ∧ ∀ n h, ∀ t7, ∀ t8, I n [t7, t8] h →
    runD (fieldAddrD T_api_Mem c2 2) h fun t17 h =>
    runD (fitD T_sl_api_Pending (loadD h t17)) h fun t18 h =>
    runD (lenD T_sl_api_Pending h t18) h fun t19 h =>
    runD (binD T_int .lss t8 t19) h fun t20 h =>
    condW t20
    (joinW (fun (J2 : AV → AV → AV → AV → List AObj → Prop) =>
    runD (fieldAddrD T_api_Mem c2 2) h fun t23 h =>
    runD (fitD T_sl_api_Pending (loadD h t23)) h fun t24 h =>
    runD (indexAddrD T_sl_api_Pending h t24 t8) h fun t26 h =>
    runD (fieldAddrD T_api_Pending t26 0) h fun t27 h =>
    runD (fitD T_int (loadD h t27)) h fun t28 h =>
    runD (binD T_int .quo t28 (.int .i64 8)) h fun t29 h =>
    joinW (fun (J3 : AV → AV → AV → AV → AV → AV → List AObj → Prop) =>
    promV [false, false] [(.int .i64 0), (.int .i64 0)] h fun lv h => lamplighterref04_Crash.L2 c J3 K (AV.norms h.length h lv) (normH h.length h) h.length (AV.norm h.length h c1) (AV.norm h.length h c2) (AV.norm h.length h t7) (AV.norm h.length h t8) (AV.norm h.length h t29))
    (fun t1 t2 t7 t8 t9 t10 h => runD (lenD T_sl_int h t1) h fun t49 h =>
    runD (binD T_int .lss t9 t49) h fun t50 h =>
    joinW (fun (J5 : AV → AV → List AObj → Prop) =>
    guardW t50 true
    (runD (lenD T_sl_int h t1) h fun t56 h =>
      runD (binD T_int .sub t56 (.int .i64 1)) h fun t57 h =>
      runD (minD t9 t57) h fun t58 h =>
      runD (indexAddrD T_sl_int h t1 t58) h fun t59 h =>
      runD (fitD T_int (loadD h t59)) h fun t60 h =>
      runD (binD T_int .lss t10 t60) h fun t61 h =>
      J5 (.bool true) t61 h)
    (J5 (.bool false) .und h))
    (fun t51 t61 h => runD (pickD t51 t61 (.bool false)) h fun t62 h =>
    runD (buildSliceD T_sl_bool 1 [(0, t62)] h.length) h fun t63 h =>
    runDM (appendD T_sl_bool h t7 t63 h.length) (appendH T_sl_bool h t7 t63) h fun t64 h =>
    J2 t1 t2 t64 t8 h)))
    (fun t1 t2 t7 t8 h => runD (binD T_int .add t8 (.int .i64 1)) h fun t22 h =>
    (∃ m, m < n ∧ I m (AV.norms n0 h [t7, t22]) (normH n0 h)) ∧ AV.norms n0 h [t1, t2] = [c1, c2]))
    (J1 c2 t7 h)
def lamplighterref04_Crash.H (c : Ctx) (t0 : AV) (t1 : AV) (h : List AObj) (K : AOut → List AObj → Prop) : Prop :=
  boxW T_api_Mem t0 h fun t2 h =>
  runD (fitD T_api_Mem (loadD h t2)) h fun t12 h =>
  callW c (.fn (.func 28) [] []) [t12] h (fun t13 h =>
  runD (unD .not t13) h fun t15 h =>
  condW t15
  (K (.ret (.tup [(.sl true (.ints .i64 [])), (.int .i64 40)])) h)
  (joinW (fun (J1 : AV → AV → List AObj → Prop) =>
  promV [true, false] [(.sl true (.bools [])), (.int .i64 0)] h fun lv h => lamplighterref04_Crash.L1 c J1 K (AV.norms h.length h lv) (normH h.length h) h.length (AV.norm h.length h t1) (AV.norm h.length h t2))
  (fun t2 t7 h => runD (fitD T_api_Mem (loadD h t2)) h fun t65 h =>
  callW c (.fn (.func 43) [] []) [t65, t7] h (fun t67 h =>
  runD (fieldD T_api_Mem t67 1) h fun t68 h =>
  K (.ret (.tup [t68, (.int .i64 0)])) h)
  (fun v h => K (.pan v) h))))
  (fun v h => K (.pan v) h)
def lamplighterref04_New.loops : Nat → LInfo
  | 1 => ⟨[], [], [], [(4, none), (4, some [7, 11])], []⟩
  | _ => ⟨[], [], [], [], []⟩
def lamplighterref04_New.H (c : Ctx) (t0 : AV) (h : List AObj) (K : AOut → List AObj → Prop) : Prop :=
  allocW T_api_Mem h fun t2 h =>
  runD (lenD T_sl_int h t0) h fun t5 h =>
  runD (binD T_int .gtr t5 (.int .i64 4096)) h fun t6 h =>
  joinW (fun (J1 : AV → AV → List AObj → Prop) =>
  guardW t6 false
  (runD (lenD T_sl_int h t0) h fun t9 h =>
    runD (binD T_int .rem t9 (.int .i64 8)) h fun t10 h =>
    runD (binD T_int .neq t10 (.int .i64 0)) h fun t11 h =>
    J1 (.bool false) t11 h)
  (J1 (.bool true) .und h))
  (fun t7 t11 h => runD (pickD t7 (.bool true) t11) h fun t12 h =>
  condW t12
  (runD (buildD T_api_Mem []) h fun t13 h =>
    runH (storeH T_api_Mem h t2 t13) h fun _ h =>
    loadRes (fitD T_api_Mem (loadD h t2)) fun r0 => K (.ret (.tup [r0, (.int .i64 40)])) h)
  (runD (buildD T_api_Mem [(0, t0), (1, t0)]) h fun t16 h =>
  runH (storeH T_api_Mem h t2 t16) h fun _ h =>
  loadRes (fitD T_api_Mem (loadD h t2)) fun r0 => K (.ret (.tup [r0, (.int .i64 0)])) h))
def lamplighterref04_Check.loops : Nat → LInfo
  | 2 => ⟨[], [], [], [(6, none), (2, some [16, 18]), (2, none), (3, some [20, 23])], []⟩
  | 6 => ⟨[5], [false], [1, 3, 4], [], []⟩
  | 9 => ⟨[], [], [], [(4, none), (4, some [44, 48])], []⟩
  | 12 => ⟨[7], [false], [1, 3, 4, 5, 6], [(4, none), (2, some [53, 55])], []⟩
  | _ => ⟨[], [], [], [], []⟩
def lamplighterref04_Check.L2 (c : Ctx) (J6 : AV → AV → AV → AV → AV → List AObj → Prop) (K : AOut → List AObj → Prop) (lv : List AV) (h0 : List AObj) (n0 : Nat) (c1 : AV) (c3 : AV) (c4 : AV) (c5 : AV) (c6 : AV) : Prop :=
  ∃ I : Nat → List AV → List AObj → Prop, (∃ n, I n lv h0) ∧ ∀ n h, ∀ t7, I n [t7] h →
    runD (binD T_int .lss t7 c5) h fun t52 h =>
    joinW (fun (J7 : AV → AV → List AObj → Prop) =>
    guardW t52 true
    (runD (fieldAddrD T_api_Pending c6 2) h fun t54 h =>
      runD (fitD T_bool (loadD h t54)) h fun t55 h =>
      J7 (.bool true) t55 h)
    (J7 (.bool false) .und h))
    (fun t53 t55 h => runD (pickD t53 t55 (.bool false)) h fun t56 h =>
    condW t56
    (runD (fieldAddrD T_api_Mem c1 2) h fun t59 h =>
    runD (fitD T_sl_api_Pending (loadD h t59)) h fun t60 h =>
    runD (indexAddrD T_sl_api_Pending h t60 t7) h fun t62 h =>
    runD (fieldAddrD T_api_Pending t62 0) h fun t63 h =>
    runD (fitD T_int (loadD h t63)) h fun t64 h =>
    runD (binD T_int .quo t64 (.int .i64 8)) h fun t65 h =>
    runD (fieldAddrD T_api_Pending c6 0) h fun t66 h =>
    runD (fitD T_int (loadD h t66)) h fun t67 h =>
    runD (binD T_int .quo t67 (.int .i64 8)) h fun t68 h =>
    runD (binD T_int .eql t65 t68) h fun t69 h =>
    joinW (fun (J8 : AV → AV → List AObj → Prop) =>
    guardW t69 true
    (runD (fieldAddrD T_api_Mem c1 2) h fun t71 h =>
      runD (fitD T_sl_api_Pending (loadD h t71)) h fun t72 h =>
      runD (indexAddrD T_sl_api_Pending h t72 t7) h fun t74 h =>
      runD (fieldAddrD T_api_Pending t74 2) h fun t75 h =>
      runD (fitD T_bool (loadD h t75)) h fun t76 h =>
      runD (unD .not t76) h fun t77 h =>
      J8 (.bool true) t77 h)
    (J8 (.bool false) .und h))
    (fun t70 t77 h => runD (pickD t70 t77 (.bool false)) h fun t78 h =>
    condW t78
    (K (.ret (.bool false)) h)
    (runD (binD T_int .add t7 (.int .i64 1)) h fun t58 h =>
    (∃ m, m < n ∧ I m (AV.norms n0 h [t58]) (normH n0 h)) ∧ AV.norms n0 h [c1, c3, c4, c5, c6] = [c1, c3, c4, c5, c6])))
    (J6 c1 c3 c4 c5 c6 h))
def lamplighterref04_Check.L1 (c : Ctx) (J3 : AV → AV → List AObj → Prop) (K : AOut → List AObj → Prop) (lv : List AV) (h0 : List AObj) (n0 : Nat) (c1 : AV) (c3 : AV) (c4 : AV) : Prop :=
  ∃ I : Nat → List AV → List AObj → Prop, (∃ n, I n lv h0) ∧ ∀ n h, ∀ t5, I n [t5] h →
    runD (fieldAddrD T_api_Mem c1 2) h fun t30 h =>
    runD (fitD T_sl_api_Pending (loadD h t30)) h fun t31 h =>
    runD (lenD T_sl_api_Pending h t31) h fun t32 h =>
    runD (binD T_int .lss t5 t32) h fun t33 h =>
    condW t33
    (joinW (fun (J4 : AV → AV → AV → AV → List AObj → Prop) =>
    runD (fieldAddrD T_api_Mem c1 2) h fun t36 h =>
    runD (fitD T_sl_api_Pending (loadD h t36)) h fun t37 h =>
    runD (indexAddrD T_sl_api_Pending h t37 t5) h fun t39 h =>
    runD (fitD T_api_Pending (loadD h t39)) h fun t40 h =>
    allocW T_api_Pending h fun t6 h =>
    runH (storeH T_api_Pending h t6 t40) h fun _ h =>
    runD (fieldAddrD T_api_Pending t6 0) h fun t41 h =>
    runD (fitD T_int (loadD h t41)) h fun t42 h =>
    runD (binD T_int .lss t42 (.int .i64 0)) h fun t43 h =>
    joinW (fun (J5 : AV → AV → List AObj → Prop) =>
    guardW t43 false
    (runD (fieldAddrD T_api_Pending t6 0) h fun t45 h =>
      runD (fitD T_int (loadD h t45)) h fun t46 h =>
      runD (binD T_int .geq t46 c3) h fun t48 h =>
      J5 (.bool false) t48 h)
    (J5 (.bool true) .und h))
    (fun t44 t48 h => runD (pickD t44 (.bool true) t48) h fun t49 h =>
    condW t49
    (K (.ret (.bool false)) h)
    (joinW (fun (J6 : AV → AV → AV → AV → AV → List AObj → Prop) =>
    promV [false] [(.int .i64 0)] h fun lv h => lamplighterref04_Check.L2 c J6 K (AV.norms h.length h lv) (normH h.length h) h.length (AV.norm h.length h c1) (AV.norm h.length h c3) (AV.norm h.length h c4) (AV.norm h.length h t5) (AV.norm h.length h t6))
    (fun t1 t3 t4 t5 t6 h => runD (fieldAddrD T_api_Pending t6 0) h fun t80 h =>
    runD (fitD T_int (loadD h t80)) h fun t81 h =>
    runD (fieldAddrD T_api_Pending t6 1) h fun t82 h =>
    runD (fitD T_int (loadD h t82)) h fun t83 h =>
    runD (indexAddrD T_sl_int h t4 t81) h fun t84 h =>
    runH (storeH T_int h t84 t83) h fun _ h =>
    J4 t1 t3 t4 t5 h))))
    (fun t1 t3 t4 t5 h => runD (binD T_int .add t5 (.int .i64 1)) h fun t35 h =>
    (∃ m, m < n ∧ I m (AV.norms n0 h [t35]) (normH n0 h)) ∧ AV.norms n0 h [t1, t3, t4] = [c1, c3, c4]))
    (J3 c1 c4 h)
def lamplighterref04_Check.H (c : Ctx) (t0 : AV) (h : List AObj) (K : AOut → List AObj → Prop) : Prop :=
  boxW T_api_Mem t0 h fun t1 h =>
  runD (fieldAddrD T_api_Mem t1 0) h fun t8 h =>
  runD (fitD T_sl_int (loadD h t8)) h fun t9 h =>
  runD (lenD T_sl_int h t9) h fun t10 h =>
  runD (fieldAddrD T_api_Mem t1 1) h fun t12 h =>
  runD (fitD T_sl_int (loadD h t12)) h fun t13 h =>
  runD (lenD T_sl_int h t13) h fun t14 h =>
  runD (binD T_int .neq t10 t14) h fun t15 h =>
  joinW (fun (J1 : AV → AV → List AObj → Prop) =>
  guardW t15 false
  (runD (binD T_int .gtr t10 (.int .i64 4096)) h fun t18 h =>
    J1 (.bool false) t18 h)
  (J1 (.bool true) .und h))
  (fun t16 t18 h => runD (pickD t16 (.bool true) t18) h fun t19 h =>
  joinW (fun (J2 : AV → AV → List AObj → Prop) =>
  guardW t19 false
  (runD (binD T_int .rem t10 (.int .i64 8)) h fun t22 h =>
    runD (binD T_int .neq t22 (.int .i64 0)) h fun t23 h =>
    J2 (.bool false) t23 h)
  (J2 (.bool true) .und h))
  (fun t20 t23 h => runD (pickD t20 (.bool true) t23) h fun t24 h =>
  condW t24
  (K (.ret (.bool false)) h)
  (runD (buildSliceD T_sl_int 0 [] h.length) h fun t25 h =>
  runD (fieldAddrD T_api_Mem t1 1) h fun t26 h =>
  runD (fitD T_sl_int (loadD h t26)) h fun t27 h =>
  runDM (appendD T_sl_int h t25 t27 h.length) (appendH T_sl_int h t25 t27) h fun t28 h =>
  joinW (fun (J3 : AV → AV → List AObj → Prop) =>
  promV [false] [(.int .i64 0)] h fun lv h => lamplighterref04_Check.L1 c J3 K (AV.norms h.length h lv) (normH h.length h) h.length (AV.norm h.length h t1) (AV.norm h.length h t10) (AV.norm h.length h t28))
  (fun t1 t4 h => runD (fieldAddrD T_api_Mem t1 0) h fun t86 h =>
  runD (fitD T_sl_int (loadD h t86)) h fun t87 h =>
  callW c (.fn (.func 16) [] []) [t4, t87] h (fun t88 h =>
  K (.ret t88) h)
  (fun v h => K (.pan v) h)))))
def lamplighterref04_set.loops : Nat → LInfo
  | _ => ⟨[], [], [], [], []⟩
def lamplighterref04_set.H (c : Ctx) (t0 : AV) (t1 : AV) (t2 : AV) (h : List AObj) (K : AOut → List AObj → Prop) : Prop :=
  runD (buildSliceD T_sl_int 0 [] h.length) h fun t8 h =>
  runDM (appendD T_sl_int h t8 t0 h.length) (appendH T_sl_int h t8 t0) h fun t10 h =>
  runD (indexAddrD T_sl_int h t10 t1) h fun t14 h =>
  runH (storeH T_int h t14 t2) h fun _ h =>
  K (.ret t10) h
def lamplighterref04_line.loops : Nat → LInfo
  | 1 => ⟨[], [], [], [(3, none), (6, some [7, 13])], []⟩
  | _ => ⟨[], [], [], [], []⟩
def lamplighterref04_line.H (c : Ctx) (t0 : AV) (t1 : AV) (h : List AObj) (K : AOut → List AObj → Prop) : Prop :=
  boxW T_api_Mem t0 h fun t2 h =>
  runD (binD T_int .geq t1 (.int .i64 0)) h fun t6 h =>
  joinW (fun (J1 : AV → AV → List AObj → Prop) =>
  guardW t6 true
  (runD (fieldAddrD T_api_Mem t2 0) h fun t9 h =>
    runD (fitD T_sl_int (loadD h t9)) h fun t10 h =>
    runD (lenD T_sl_int h t10) h fun t11 h =>
    runD (binD T_int .quo t11 (.int .i64 8)) h fun t12 h =>
    runD (binD T_int .lss t1 t12) h fun t13 h =>
    J1 (.bool true) t13 h)
  (J1 (.bool false) .und h))
  (fun t7 t13 h => runD (pickD t7 t13 (.bool false)) h fun t14 h =>
  K (.ret t14) h)
def lamplighterref04_keep.loops : Nat → LInfo
  | 3 => ⟨[6], [false], [1, 2, 4, 5], [], [5]⟩
  | _ => ⟨[], [], [], [], []⟩
def lamplighterref04_keep.L1 (c : Ctx) (J1 : AV → AV → List AObj → Prop) (K : AOut → List AObj → Prop) (lv : List AV) (h0 : List AObj) (n0 : Nat) (c1 : AV) (c2 : AV) (c4 : AV) (c5 : AV) : Prop :=
  ∃ I : Nat → List AV → List AObj → Prop, (∃ n, I n lv h0) ∧ ∀ n h, ∀ t6, I n [t6] h →
    runD (fieldAddrD T_api_Mem c2 2) h fun t13 h =>
    runD (fitD T_sl_api_Pending (loadD h t13)) h fun t14 h =>
    runD (lenD T_sl_api_Pending h t14) h fun t15 h =>
    runD (binD T_int .lss t6 t15) h fun t16 h =>
    condW t16
    (runD (indexAddrD T_sl_bool h c1 t6) h fun t21 h =>
    runD (fitD T_bool (loadD h t21)) h fun t22 h =>
    joinW (fun (J2 : List AObj → Prop) =>
    condW t22
    (runD (fieldAddrD T_api_Mem c5 1) h fun t23 h =>
      runD (fitD T_sl_int (loadD h t23)) h fun t24 h =>
      runD (fieldAddrD T_api_Mem c2 2) h fun t25 h =>
      runD (fitD T_sl_api_Pending (loadD h t25)) h fun t26 h =>
      runD (indexAddrD T_sl_api_Pending h t26 t6) h fun t28 h =>
      runD (fieldAddrD T_api_Pending t28 0) h fun t29 h =>
      runD (fitD T_int (loadD h t29)) h fun t30 h =>
      runD (fieldAddrD T_api_Mem c2 2) h fun t31 h =>
      runD (fitD T_sl_api_Pending (loadD h t31)) h fun t32 h =>
      runD (indexAddrD T_sl_api_Pending h t32 t6) h fun t34 h =>
      runD (fieldAddrD T_api_Pending t34 1) h fun t35 h =>
      runD (fitD T_int (loadD h t35)) h fun t36 h =>
      callW c.noS (.fn (.func 41) [] []) [t24, t30, t36] h (fun t37 h =>
      runD (fieldAddrD T_api_Mem c5 1) h fun t38 h =>
      runH (storeH T_sl_int h t38 t37) h fun _ h =>
      J2 h)
      (fun _ _ => False))
    (runD (fieldAddrD T_api_Mem c5 2) h fun t39 h =>
      runD (fitD T_sl_api_Pending (loadD h t39)) h fun t40 h =>
      runD (fieldAddrD T_api_Mem c2 2) h fun t41 h =>
      runD (fitD T_sl_api_Pending (loadD h t41)) h fun t42 h =>
      runD (indexAddrD T_sl_api_Pending h t42 t6) h fun t44 h =>
      runD (fitD T_api_Pending (loadD h t44)) h fun t45 h =>
      runD (buildSliceD T_sl_api_Pending 1 [(0, t45)] h.length) h fun t46 h =>
      runDM (appendD T_sl_api_Pending h t40 t46 h.length) (appendH T_sl_api_Pending h t40 t46) h fun t47 h =>
      runD (fieldAddrD T_api_Mem c5 2) h fun t48 h =>
      runH (storeH T_sl_api_Pending h t48 t47) h fun _ h =>
      J2 h))
    (fun h => runD (binD T_int .add t6 (.int .i64 1)) h fun t18 h =>
    (∃ m, m < n ∧ I m (AV.norms n0 h [t18]) (normH n0 h)) ∧ AV.norms n0 h [c1, c2, c4, c5] = [c1, c2, c4, c5]))
    (J1 c4 c5 h)
def lamplighterref04_keep.H (c : Ctx) (t0 : AV) (t1 : AV) (h : List AObj) (K : AOut → List AObj → Prop) : Prop :=
  boxW T_api_Mem t0 h fun t2 h =>
  allocW T_api_Mem h fun t4 h =>
  runD (fieldAddrD T_api_Mem t2 0) h fun t7 h =>
  runD (fitD T_sl_int (loadD h t7)) h fun t8 h =>
  runD (fieldAddrD T_api_Mem t2 1) h fun t9 h =>
  runD (fitD T_sl_int (loadD h t9)) h fun t10 h =>
  runD (buildD T_api_Mem [(0, t8), (1, t10)]) h fun t11 h =>
  allocW T_api_Mem h fun t5 h =>
  runH (storeH T_api_Mem h t5 t11) h fun _ h =>
  joinW (fun (J1 : AV → AV → List AObj → Prop) =>
  promV [false] [(.int .i64 0)] (boxH [t5] h) fun lv h => lamplighterref04_keep.L1 c J1 K (AV.norms h.length h lv) (normH h.length h) h.length (AV.norm h.length h t1) (AV.norm h.length h t2) (AV.norm h.length h t4) (AV.norm h.length h t5))
  (fun t4 t5 h => runD (fitD T_api_Mem (loadD h t5)) h fun t49 h =>
  runH (storeH T_api_Mem h t4 t49) h fun _ h =>
  loadRes (fitD T_api_Mem (loadD h t4)) fun r0 => K (.ret r0) h)
theorem lamplighterref04_Few.eq (F : List (FuncId × Contract)) (S : List (FuncId × Con)) (t0 : AV) (h : List AObj) (K : AOut → List AObj → Prop) : funW (ctx F S lamplighterref04_Few.loops) Try.f10 [t0] h K = lamplighterref04_Few.H (ctx F S lamplighterref04_Few.loops) t0 h K := by kernel_rfl
theorem lamplighterref04_Same.eq (F : List (FuncId × Contract)) (S : List (FuncId × Con)) (t0 t1 : AV) (h : List AObj) (K : AOut → List AObj → Prop) : funW (ctx F S lamplighterref04_Same.loops) Try.f17 [t0, t1] h K = lamplighterref04_Same.H (ctx F S lamplighterref04_Same.loops) t0 t1 h K := by kernel_rfl
theorem lamplighterref04_Put.eq (F : List (FuncId × Contract)) (S : List (FuncId × Con)) (t0 t1 t2 : AV) (h : List AObj) (K : AOut → List AObj → Prop) : funW (ctx F S lamplighterref04_Put.loops) Try.f19 [t0, t1, t2] h K = lamplighterref04_Put.H (ctx F S lamplighterref04_Put.loops) t0 t1 t2 h K := by kernel_rfl
theorem lamplighterref04_Flush.eq (F : List (FuncId × Contract)) (S : List (FuncId × Con)) (t0 t1 : AV) (h : List AObj) (K : AOut → List AObj → Prop) : funW (ctx F S lamplighterref04_Flush.loops) Try.f20 [t0, t1] h K = lamplighterref04_Flush.H (ctx F S lamplighterref04_Flush.loops) t0 t1 h K := by kernel_rfl
theorem lamplighterref04_Fence.eq (F : List (FuncId × Contract)) (S : List (FuncId × Con)) (t0 : AV) (h : List AObj) (K : AOut → List AObj → Prop) : funW (ctx F S lamplighterref04_Fence.loops) Try.f21 [t0] h K = lamplighterref04_Fence.H (ctx F S lamplighterref04_Fence.loops) t0 h K := by kernel_rfl
theorem lamplighterref04_Evict.eq (F : List (FuncId × Contract)) (S : List (FuncId × Con)) (t0 t1 : AV) (h : List AObj) (K : AOut → List AObj → Prop) : funW (ctx F S lamplighterref04_Evict.loops) Try.f22 [t0, t1] h K = lamplighterref04_Evict.H (ctx F S lamplighterref04_Evict.loops) t0 t1 h K := by kernel_rfl
theorem lamplighterref04_Sync.eq (F : List (FuncId × Contract)) (S : List (FuncId × Con)) (t0 : AV) (h : List AObj) (K : AOut → List AObj → Prop) : funW (ctx F S lamplighterref04_Sync.loops) Try.f24 [t0] h K = lamplighterref04_Sync.H (ctx F S lamplighterref04_Sync.loops) t0 h K := by kernel_rfl
theorem lamplighterref04_Crash.eq (F : List (FuncId × Contract)) (S : List (FuncId × Con)) (t0 t1 : AV) (h : List AObj) (K : AOut → List AObj → Prop) : funW (ctx F S lamplighterref04_Crash.loops) Try.f25 [t0, t1] h K = lamplighterref04_Crash.H (ctx F S lamplighterref04_Crash.loops) t0 t1 h K := by kernel_rfl
theorem lamplighterref04_New.eq (F : List (FuncId × Contract)) (S : List (FuncId × Con)) (t0 : AV) (h : List AObj) (K : AOut → List AObj → Prop) : funW (ctx F S lamplighterref04_New.loops) Try.f27 [t0] h K = lamplighterref04_New.H (ctx F S lamplighterref04_New.loops) t0 h K := by kernel_rfl
theorem lamplighterref04_Check.eq (F : List (FuncId × Contract)) (S : List (FuncId × Con)) (t0 : AV) (h : List AObj) (K : AOut → List AObj → Prop) : funW (ctx F S lamplighterref04_Check.loops) Try.f28 [t0] h K = lamplighterref04_Check.H (ctx F S lamplighterref04_Check.loops) t0 h K := by kernel_rfl
theorem lamplighterref04_set.eq (F : List (FuncId × Contract)) (S : List (FuncId × Con)) (t0 t1 t2 : AV) (h : List AObj) (K : AOut → List AObj → Prop) : funW (ctx F S lamplighterref04_set.loops) Try.f41 [t0, t1, t2] h K = lamplighterref04_set.H (ctx F S lamplighterref04_set.loops) t0 t1 t2 h K := by kernel_rfl
theorem lamplighterref04_line.eq (F : List (FuncId × Contract)) (S : List (FuncId × Con)) (t0 t1 : AV) (h : List AObj) (K : AOut → List AObj → Prop) : funW (ctx F S lamplighterref04_line.loops) Try.f42 [t0, t1] h K = lamplighterref04_line.H (ctx F S lamplighterref04_line.loops) t0 t1 h K := by kernel_rfl
theorem lamplighterref04_keep.eq (F : List (FuncId × Contract)) (S : List (FuncId × Con)) (t0 t1 : AV) (h : List AObj) (K : AOut → List AObj → Prop) : funW (ctx F S lamplighterref04_keep.loops) Try.f43 [t0, t1] h K = lamplighterref04_keep.H (ctx F S lamplighterref04_keep.loops) t0 t1 h K := by kernel_rfl
theorem lamplighterref04_Few.at : Try.prog.funcs[10]? = some Try.f10 := by kernel_rfl
theorem lamplighterref04_Few.nm : (Try.f10.name == "runtime.NumGoroutine") = false := by kernel_rfl
theorem lamplighterref04_Few.bd : Try.f10.body.isNone = false := by kernel_rfl
theorem lamplighterref04_Same.at : Try.prog.funcs[17]? = some Try.f17 := by kernel_rfl
theorem lamplighterref04_Same.nm : (Try.f17.name == "runtime.NumGoroutine") = false := by kernel_rfl
theorem lamplighterref04_Same.bd : Try.f17.body.isNone = false := by kernel_rfl
theorem lamplighterref04_Put.at : Try.prog.funcs[19]? = some Try.f19 := by kernel_rfl
theorem lamplighterref04_Put.nm : (Try.f19.name == "runtime.NumGoroutine") = false := by kernel_rfl
theorem lamplighterref04_Put.bd : Try.f19.body.isNone = false := by kernel_rfl
theorem lamplighterref04_Flush.at : Try.prog.funcs[20]? = some Try.f20 := by kernel_rfl
theorem lamplighterref04_Flush.nm : (Try.f20.name == "runtime.NumGoroutine") = false := by kernel_rfl
theorem lamplighterref04_Flush.bd : Try.f20.body.isNone = false := by kernel_rfl
theorem lamplighterref04_Fence.at : Try.prog.funcs[21]? = some Try.f21 := by kernel_rfl
theorem lamplighterref04_Fence.nm : (Try.f21.name == "runtime.NumGoroutine") = false := by kernel_rfl
theorem lamplighterref04_Fence.bd : Try.f21.body.isNone = false := by kernel_rfl
theorem lamplighterref04_Evict.at : Try.prog.funcs[22]? = some Try.f22 := by kernel_rfl
theorem lamplighterref04_Evict.nm : (Try.f22.name == "runtime.NumGoroutine") = false := by kernel_rfl
theorem lamplighterref04_Evict.bd : Try.f22.body.isNone = false := by kernel_rfl
theorem lamplighterref04_Sync.at : Try.prog.funcs[24]? = some Try.f24 := by kernel_rfl
theorem lamplighterref04_Sync.nm : (Try.f24.name == "runtime.NumGoroutine") = false := by kernel_rfl
theorem lamplighterref04_Sync.bd : Try.f24.body.isNone = false := by kernel_rfl
theorem lamplighterref04_Crash.at : Try.prog.funcs[25]? = some Try.f25 := by kernel_rfl
theorem lamplighterref04_Crash.nm : (Try.f25.name == "runtime.NumGoroutine") = false := by kernel_rfl
theorem lamplighterref04_Crash.bd : Try.f25.body.isNone = false := by kernel_rfl
theorem lamplighterref04_New.at : Try.prog.funcs[27]? = some Try.f27 := by kernel_rfl
theorem lamplighterref04_New.nm : (Try.f27.name == "runtime.NumGoroutine") = false := by kernel_rfl
theorem lamplighterref04_New.bd : Try.f27.body.isNone = false := by kernel_rfl
theorem lamplighterref04_Check.at : Try.prog.funcs[28]? = some Try.f28 := by kernel_rfl
theorem lamplighterref04_Check.nm : (Try.f28.name == "runtime.NumGoroutine") = false := by kernel_rfl
theorem lamplighterref04_Check.bd : Try.f28.body.isNone = false := by kernel_rfl
theorem lamplighterref04_set.at : Try.prog.funcs[41]? = some Try.f41 := by kernel_rfl
theorem lamplighterref04_set.nm : (Try.f41.name == "runtime.NumGoroutine") = false := by kernel_rfl
theorem lamplighterref04_set.bd : Try.f41.body.isNone = false := by kernel_rfl
theorem lamplighterref04_line.at : Try.prog.funcs[42]? = some Try.f42 := by kernel_rfl
theorem lamplighterref04_line.nm : (Try.f42.name == "runtime.NumGoroutine") = false := by kernel_rfl
theorem lamplighterref04_line.bd : Try.f42.body.isNone = false := by kernel_rfl
theorem lamplighterref04_keep.at : Try.prog.funcs[43]? = some Try.f43 := by kernel_rfl
theorem lamplighterref04_keep.nm : (Try.f43.name == "runtime.NumGoroutine") = false := by kernel_rfl
theorem lamplighterref04_keep.bd : Try.f43.body.isNone = false := by kernel_rfl
end Lam
