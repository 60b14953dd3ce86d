/- What functions of the program come to, each proved from its code. -/
import Derived.Test.YtmbmfnmjjelmkabGreatLm3
import Derived.Attr
import Derived.KernelRfl
import Derived.Test.YtmbmfnmjjelmkabGreatProg
import Derived.WideLaws
set_option linter.unusedVariables false
set_option linter.unusedSimpArgs false
set_option linter.unnecessarySimpa false
set_option linter.unusedSectionVars false
open Nat (reduceEqDiff reduceAdd reduceSub reduceLeDiff)
open Int (reduceToNat reduceEq reduceLE reduceLT)
open List (reduceReplicate)
set_option maxRecDepth 20000
namespace Lam
open Go
/-! ### Memories -/
def memV (vol per : List Int) (pend : List Pend) : AV := .agg [.sl false (.ints .i64 vol), .sl false (.ints .i64 per), .sl false (.pends pend)]
attribute [go_sem] memV
def gY (at_ : Int) : Int := IntKind.i64.wrap (at_.tdiv 8)
def szB (n : Int) : Bool := decide (n ≤ 4096) && decide (n.tmod 8 = 0)

def badB (p : Pend) (n : Nat) (o : Int → Bool) : Bool := decide (p.at_ < 0) || decide ((n : Int) ≤ p.at_) || (p.fl && o (gY p.at_))
def zC (p : Pend) (o : Int → Bool) : Int → Bool := fun j => if j = gY p.at_ then (o (gY p.at_) || !p.fl) else o j
def chk : List Pend → List Int → (Int → Bool) → Option (List Int)
 | [], l, _ => some l
 | p :: r, l, o => match badB p l.length o with
   | true => none
   | false => chk r (l.set p.at_.toNat p.val) (zC p o)
def nI (vol per : List Int) (pend : List Pend) : Bool := decide (vol.length = per.length) && szB vol.length && decide (chk pend per (fun _ => false) = some vol)
def mB (vol per : List Int) (pend : List Pend) : Prop := roomy vol.length ∧ roomy per.length ∧ roomy pend.length
def mU (vol per : List Int) (pend : List Pend) (at_ : Int) : Bool := decide (0 ≤ at_) && decide (at_ < (vol.length : Int)) && nI vol per pend
def oY (vol : List Int) (line : Int) : Int := if decide (line < 0) || decide (((vol.length / 8 : Nat) : Int) ≤ line) then -1 else line * 8
def putM (vol per : List Int) (pend : List Pend) (at_ val : Int) : AV :=
 .tup [memV (if mU vol per pend at_ = true then vol.set at_.toNat val else vol) per (if mU vol per pend at_ = true then pend ++ [⟨at_, val, false⟩] else pend), .int .i64 (if mU vol per pend at_ = true then 0 else 40)]
def gM (line : Int) (pend : List Pend) : List Pend := pend.map fun p => if gY p.at_ = line then { p with fl := true } else p
def aAz (vol per : List Int) (pend : List Pend) (line : Int) : AV :=
 .tup [memV vol per (if mU vol per pend (oY vol line) = true then gM line pend else pend), .int .i64 (if mU vol per pend (oY vol line) = true then 0 else 40)]
def lG (f : Pend → Bool) : List Pend → List Int → List Int
 | [], per => per
 | p :: r, per => lG f r (match f p with | true => per.set p.at_.toNat p.val | false => per)
def mF (f : Pend → Bool) (pend : List Pend) : List Pend := pend.filter fun p => !f p
theorem aAA (f : Pend → Bool) : ∀ (l : List Pend) (per : List Int), (lG f l per).length = per.length
 | [], per => rfl
 | p :: r, per => by
   simp only [lG]
   rw [aAA f r]
   split <;> simp
theorem aDt (f : Pend → Bool) (p : Pend) : ∀ (l : List Pend) (per : List Int), lG f (l ++ [p]) per = match f p with | true => (lG f l per).set p.at_.toNat p.val | false => lG f l per
 | [], per => by simp only [List.nil_append, lG]
 | q :: r, per => by simp only [List.cons_append, lG]; exact aDt f p r _
theorem aJg (f : Pend → Bool) (p : Pend) (l : List Pend) : mF f (l ++ [p]) = match f p with | true => mF f l | false => mF f l ++ [p] := by
 unfold mF
 rw [List.filter_append]
 cases h : f p <;> simp [h]
theorem aER : ∀ (l : List Pend) (w : List Int) (o : Int → Bool) {v : List Int}, chk l w o = some v → (∀ p ∈ l, 0 ≤ p.at_ ∧ p.at_ < (w.length : Int)) ∧ v.length = w.length
 | [], w, o, v, h => by simp only [chk, Option.some.injEq] at h; subst h; exact ⟨fun p hp => (by cases hp), rfl⟩
 | p :: r, w, o, v, h => by
   simp only [chk] at h
   split at h
   · cases h
   · rename_i hb
     obtain ⟨c1, c2⟩ := aER r _ _ h
     rw [List.length_set] at c1 c2
     refine ⟨fun q hq => ?_, c2⟩
     rcases List.mem_cons.1 hq with rfl | hq
     · simp only [badB, Bool.or_eq_false_iff, decide_eq_false_iff_not] at hb
       omega
     · exact c1 q hq
theorem aBG {vol per : List Int} {pend : List Pend} (h : nI vol per pend = true) : vol.length = per.length ∧ szB vol.length = true ∧ chk pend per (fun _ => false) = some vol := by
 simp only [nI, Bool.and_eq_true, decide_eq_true_eq] at h
 exact ⟨h.1.1, h.1.2, h.2⟩
theorem aHH {vol per : List Int} {pend : List Pend} (h : nI vol per pend = true) : ∀ p ∈ pend, 0 ≤ p.at_ ∧ p.at_ < (per.length : Int) := (aER _ _ _ (aBG h).2.2).1
def fFl (p : Pend) : Bool := p.fl
def fLn (line : Int) (p : Pend) : Bool := decide (gY p.at_ = line)
def aDu (f : Pend → Bool) (ok : Bool) (vol per : List Int) (pend : List Pend) : AV :=
 .tup [memV vol (if ok = true then lG f pend per else per) (if ok = true then mF f pend else pend), .int .i64 (if ok = true then 0 else 40)]
theorem aKE {a : Int} (h0 : 0 ≤ a) (h1 : a ≤ 1099511627776) : gY a = a / 8 := by
 unfold gY
 rw [Int.tdiv_eq_ediv_of_nonneg h0]
 exact w64 (by omega) (by omega)

theorem aLP {a b : List Int} (hl : a.length = b.length) (h : ∀ i, i < a.length → a.getD i 0 = b.getD i 0) : a = b := by
 apply List.ext_getElem hl
 intro i h1 h2
 have := h i h1
 rw [List.getD_eq_getElem?_getD, List.getD_eq_getElem?_getD, List.getElem?_eq_getElem h1, List.getElem?_eq_getElem h2] at this
 exact this
theorem aCm (l : List Int) (i j : Nat) (v : Int) : (l.set i v).getD j 0 = if i = j ∧ i < l.length then v else l.getD j 0 := by
 rw [List.getD_eq_getElem?_getD, List.getElem?_set, List.getD_eq_getElem?_getD]
 by_cases h : i = j
 · subst h
   by_cases h2 : i < l.length
   · simp [h2]
   · simp [h2]
 · simp [h]

def app : List Pend → List Int → List Int
 | [], w => w
 | p :: r, w => app r (w.set p.at_.toNat p.val)
theorem rC : ∀ (l : List Pend) (w : List Int), (app l w).length = w.length
 | [], w => rfl
 | p :: r, w => by rw [app, rC r, List.length_set]
theorem zD : ∀ (l r : List Pend) (w : List Int), app (l ++ r) w = app r (app l w)
 | [], r, w => rfl
 | p :: l, r, w => by rw [List.cons_append, app, zD l, app]
theorem aAB (f : Pend → Bool) : ∀ (l : List Pend) (w : List Int), lG f l w = app (l.filter f) w
 | [], w => rfl
 | p :: r, w => by
   simp only [lG]
   rw [aAB f r]
   cases h : f p <;> simp [h, app]

def seen (a : Nat) : List Pend → Int → Int
 | [], d => d
 | p :: r, d => seen a r (if p.at_.toNat = a then p.val else d)
theorem aBH (a : Nat) : ∀ (l r : List Pend) (d : Int), seen a (l ++ r) d = seen a r (seen a l d)
 | [], r, d => rfl
 | p :: l, r, d => by rw [List.cons_append, seen, aBH a l, seen]
theorem vU : ∀ (l : List Pend) (w : List Int) (a : Nat), a < w.length → (app l w).getD a 0 = seen a l (w.getD a 0)
 | [], w, a, h => rfl
 | p :: r, w, a, h => by
   rw [app, vU r _ a (by rw [List.length_set]; exact h), seen, aCm]
   congr 1
   by_cases e : p.at_.toNat = a
   · simp [e, h]
   · simp [e]
theorem aES (a : Nat) : ∀ (l : List Pend) (d : Int), (∀ p ∈ l, p.at_.toNat ≠ a) → seen a l d = d
 | [], d, h => rfl
 | p :: r, d, h => by
   rw [seen, if_neg (h p (by simp)), aES a r d fun q hq => h q (by simp [hq])]
theorem aBI (a : Nat) (f : Pend → Bool) : ∀ (l : List Pend) (d : Int), (∀ p ∈ l, p.at_.toNat = a → f p = true) → seen a (l.filter f) d = seen a l d
 | [], d, h => rfl
 | p :: r, d, h => by
   have ih := fun d => aBI a f r d fun q hq => h q (by simp [hq])
   cases hf : f p with
   | true => rw [List.filter_cons_of_pos hf, seen, seen, ih]
   | false =>
     rw [List.filter_cons_of_neg (by simp [hf]), ih, seen]
     have : ¬ p.at_.toNat = a := fun e => by have := h p (by simp) e; rw [hf] at this; cases this
     rw [if_neg this]
theorem aIk (a : Nat) (l : List Pend) (d : Int) : seen a (l.filter fun p => decide (p.at_.toNat = a)) d = seen a l d := aBI a _ l d fun p _ h => by simp [h]

theorem aAC {f : Pend → Bool} : ∀ {l : List Pend}, l.Pairwise (fun p q => f q = true → f p = true) → l.filter f ++ l.filter (fun p => !f p) = l
 | [], _ => rfl
 | p :: r, h => by
   rw [List.pairwise_cons] at h
   cases hf : f p with
   | true => rw [List.filter_cons_of_pos hf, List.filter_cons_of_neg (by simp [hf]), List.cons_append, aAC h.2]
   | false =>
     have hn : ∀ q ∈ r, f q = false := fun q hq => by
       cases e : f q with
       | false => rfl
       | true => rw [h.1 q hq e] at hf; cases hf
     rw [List.filter_cons_of_neg (by simp [hf]), List.filter_cons_of_pos (by simp [hf])]
     have e1 : r.filter f = [] := List.filter_eq_nil_iff.2 fun q hq => by simp [hn q hq]
     have e2 : r.filter (fun p => !f p) = r := List.filter_eq_self.2 fun q hq => by simp [hn q hq]
     rw [e1, e2]; rfl
def oZ (f : Pend → Bool) (l : List Pend) : Prop := l.Pairwise fun p q => gY p.at_ = gY q.at_ → f q = true → f p = true
theorem aJh {p q : Pend} (hp : 0 ≤ p.at_) (hq : 0 ≤ q.at_) (h : p.at_.toNat = q.at_.toNat) : gY p.at_ = gY q.at_ := by
 have : p.at_ = q.at_ := by omega
 rw [this]
theorem aJi {f : Pend → Bool} {l : List Pend} (h0 : ∀ p ∈ l, 0 ≤ p.at_) (h : oZ f l) (a : Nat) (d : Int) : seen a (l.filter fun p => !f p) (seen a (l.filter f) d) = seen a l d := by
 rw [← aBH, ← aIk a (_ ++ _), ← aIk a l]
 congr 1
 rw [List.filter_append, List.filter_filter, List.filter_filter]
 have hp : (l.filter fun p => decide (p.at_.toNat = a)).Pairwise fun p q => f q = true → f p = true := by
   refine (List.Pairwise.and_mem.1 (List.Pairwise.filter _ h)).imp ?_
   rintro p q ⟨hp, hq, hpq⟩ hf
   rw [List.mem_filter, decide_eq_true_eq] at hp hq
   exact hpq (aJh (h0 p hp.1) (h0 q hq.1) (by omega)) hf
 have := aAC hp
 rw [List.filter_filter, List.filter_filter] at this
 simpa [Bool.and_comm] using this

structure OkM (vol per : List Int) (pend : List Pend) : Prop where
 len : vol.length = per.length
 sz : vol.length ≤ 4096
 md : vol.length % 8 = 0
 rng : ∀ p ∈ pend, 0 ≤ p.at_ ∧ p.at_ < (per.length : Int)
 ord : oZ (fun p => p.fl) pend
 eq : app pend per = vol

theorem aEg : ∀ (l : List Pend) (w v : List Int) (o : Int → Bool), chk l w o = some v ↔ (∀ p ∈ l, 0 ≤ p.at_ ∧ p.at_ < (w.length : Int)) ∧ oZ (fun p => p.fl) l ∧ app l w = v ∧ ∀ q ∈ l, o (gY q.at_) = true → q.fl = false
 | [], w, v, o => by simp [chk, oZ, app]
 | p :: r, w, v, o => by
   simp only [chk]
   cases hb : badB p w.length o with
   | true =>
     simp only [reduceCtorEq, false_iff]
     rintro ⟨h1, h2, h3, h4⟩
     have := h1 p (by simp)
     simp only [badB, Bool.or_eq_true, decide_eq_true_eq, Bool.and_eq_true] at hb
     rcases hb with (hb | hb) | hb
     · omega
     · omega
     · have := h4 p (by simp) hb.2
       rw [hb.1] at this; cases this
   | false =>
     simp only
     rw [aEg r _ v (zC p o), List.length_set]
     simp only [badB, Bool.or_eq_false_iff, decide_eq_false_iff_not, Bool.and_eq_false_iff] at hb
     simp only [List.forall_mem_cons, oZ, List.pairwise_cons, app]
     constructor
     · rintro ⟨h1, h2, h3, h4⟩
       refine ⟨⟨by omega, h1⟩, ⟨fun q hq hl hf => ?_, h2⟩, h3, fun ho => ?_, fun q hq ho => ?_⟩
       · cases e : p.fl with
         | true => rfl
         | false =>
           have := h4 q hq (by unfold zC; rw [if_pos hl.symm]; simp [e])
           rw [hf] at this; cases this
       · rcases hb.2 with h | h
         · exact h
         · rw [ho] at h; cases h
       · apply h4 q hq
         unfold zC
         split
         · rename_i e; rw [← e, ho]; rfl
         · exact ho
     · rintro ⟨⟨h0, h1⟩, ⟨h5, h2⟩, h3, h6, h4⟩
       refine ⟨h1, h2, h3, fun q hq ho => ?_⟩
       unfold zC at ho
       split at ho
       · rename_i e
         rw [Bool.or_eq_true] at ho
         rcases ho with ho | ho
         · exact h4 q hq (by rw [e]; exact ho)
         · cases e2 : q.fl with
           | false => rfl
           | true =>
             have := h5 q hq e.symm e2
             rw [this] at ho; cases ho
       · exact h4 q hq ho

theorem aAD {vol per : List Int} {pend : List Pend} : nI vol per pend = true ↔ OkM vol per pend := by
 constructor
 · intro h
   obtain ⟨h1, h2, h3⟩ := aBG h
   rw [aEg] at h3
   simp only [szB, Bool.and_eq_true, decide_eq_true_eq] at h2
   refine ⟨h1, by omega, ?_, h3.1, h3.2.1, h3.2.2.1⟩
   have := h2.2
   rw [Int.tmod_eq_emod_of_nonneg (by omega)] at this
   omega
 · intro h
   have h3 : chk pend per (fun _ => false) = some vol := by
     rw [aEg]
     exact ⟨h.rng, h.ord, h.eq, fun q _ hq => by cases hq⟩
   have hsz := h.sz
   have hmd := h.md
   simp only [nI, Bool.and_eq_true, decide_eq_true_eq, szB]
   refine ⟨⟨h.len, by omega, ?_⟩, h3⟩
   rw [Int.tmod_eq_emod_of_nonneg (by omega)]
   omega

theorem OkM.vol_at {vol per : List Int} {pend : List Pend} (h : OkM vol per pend) {a : Nat} (ha : a < per.length) : vol.getD a 0 = seen a pend (per.getD a 0) := by
 rw [← h.eq, vU pend per a ha]

theorem OkM.put {vol per : List Int} {pend : List Pend} (h : OkM vol per pend) {a v : Int} (h0 : 0 ≤ a) (h1 : a < (vol.length : Int)) : OkM (vol.set a.toNat v) per (pend ++ [⟨a, v, false⟩]) := by
 refine ⟨by rw [List.length_set]; exact h.len, by rw [List.length_set]; exact h.sz, by rw [List.length_set]; exact h.md, fun p hp => ?_, ?_, ?_⟩
 · rcases List.mem_append.1 hp with hp | hp
   · exact h.rng p hp
   · rw [List.mem_singleton] at hp; subst hp
     have := h.len
     exact ⟨h0, by show a < _; omega⟩
 · unfold oZ
   rw [List.pairwise_append]
   refine ⟨h.ord, List.pairwise_singleton _ _, fun p hp q hq => ?_⟩
   rw [List.mem_singleton] at hq; subst hq
   intro _ hf; cases hf
 · rw [zD, h.eq]; rfl

theorem aET (line : Int) : ∀ (l : List Pend) (w : List Int), app (gM line l) w = app l w
 | [], w => rfl
 | p :: r, w => by
   show app ((if gY p.at_ = line then { p with fl := true } else p) :: gM line r) w = _
   rw [app, app, aET line r]
   split <;> rfl
theorem OkM.flush {vol per : List Int} {pend : List Pend} (h : OkM vol per pend) (line : Int) : OkM vol per (gM line pend) := by
 refine ⟨h.len, h.sz, h.md, fun p hp => ?_, ?_, by rw [aET]; exact h.eq⟩
 · obtain ⟨q, hq, rfl⟩ := List.mem_map.1 hp
   have := h.rng q hq
   split <;> exact this
 · unfold oZ gM
   rw [List.pairwise_map]
   refine h.ord.imp ?_
   intro p q hpq
   by_cases e1 : gY p.at_ = line <;> by_cases e2 : gY q.at_ = line
   · rw [if_pos e1, if_pos e2]; intros; rfl
   · rw [if_pos e1, if_neg e2]; intros; rfl
   · rw [if_neg e1, if_pos e2]; intro e; exact absurd (e.trans e2) e1
   · rw [if_neg e1, if_neg e2]; exact hpq
theorem OkM.keep {vol per : List Int} {pend : List Pend} (h : OkM vol per pend) {f : Pend → Bool} (hf : oZ f pend) : OkM vol (lG f pend per) (mF f pend) := by
 rw [aAB]
 refine ⟨by rw [rC]; exact h.len, h.sz, h.md, fun p hp => ?_, List.Pairwise.filter _ h.ord, ?_⟩
 · rw [rC]; exact h.rng p (List.mem_filter.1 hp).1
 · apply aLP
   · rw [rC, rC]; exact h.len.symm
   intro i hi
   rw [rC, rC] at hi
   unfold mF
   rw [vU _ _ _ (by rw [rC]; exact hi), vU _ _ _ hi, aJi (fun p hp => (h.rng p hp).1) hf, h.vol_at hi]
theorem OkM.fence {vol per : List Int} {pend : List Pend} (h : OkM vol per pend) : OkM vol (lG fFl pend per) (mF fFl pend) := h.keep h.ord
def i64s (l : List Int) : Prop := ∀ x ∈ l, x < 9223372036854775808
def newM (l : List Int) : AV := .tup [memV (if szB l.length = true then l else []) (if szB l.length = true then l else []) [], .int .i64 (if szB l.length = true then 0 else 40)]
section
variable {vol per : List Int} {pend : List Pend} {a v line : Int} {f : Pend → Bool} {keep : List Int}
theorem aNc (h : mU vol per pend a = true) : putM vol per pend a v = .tup [memV (vol.set a.toNat v) per (pend ++ [⟨a, v, false⟩]), .int .i64 0] := by unfold putM; simp only [h, if_true]
theorem aKF (h : mU vol per pend (oY vol line) = true) : aAz vol per pend line = .tup [memV vol per (gM line pend), .int .i64 0] := by unfold aAz; simp only [h, if_true]
theorem aKG : aDu f true vol per pend = .tup [memV vol (lG f pend per) (mF f pend), .int .i64 0] := rfl
theorem aEU : mU vol per pend a = true ↔ (0 ≤ a ∧ a < (vol.length : Int)) ∧ OkM vol per pend := by
 simp only [mU, Bool.and_eq_true, decide_eq_true_eq, aAD]
theorem OkM.small (h : OkM vol per pend) (hp : pend.length ≤ 1000000) : mB vol per pend := by
 have := h.sz; have := h.len
 unfold mB roomy; omega
theorem OkM.first (h : OkM vol per pend) (h0 : 0 ≤ line) (h1 : line < ((vol.length / 8 : Nat) : Int)) : oY vol line = line * 8 ∧ mU vol per pend (oY vol line) = true := by
 have e : oY vol line = line * 8 := by
   unfold oY
   rw [if_neg]
   simp only [Bool.or_eq_true, decide_eq_true_eq]; omega
 refine ⟨e, aEU.2 ⟨?_, h⟩⟩
 rw [e]; omega
theorem aJj (line : Int) (l : List Pend) : (gM line l).length = l.length := by simp [gM]
theorem aIl {l : List Int} (h : wfL (.ints .i64 l)) : i64s l := fun x hx => (aSf (h x hx)).2
end
theorem aNS {vol per : List Int} {pend : List Pend} (h : OkM vol per pend) {p : Pend} (hp : p ∈ pend) {i : Nat} : p.at_.toNat = i → fLn ((i : Int) / 8) p = true := by
 intro e
 have hr := h.rng p hp
 have := h.len
 have := h.sz
 unfold fLn
 rw [decide_eq_true_eq, aKE hr.1 (by omega)]
 omega
end Lam
namespace Lam
open Go

structure Mm where
 vol : List Int
 per : List Int
 pend : List Pend
 deriving DecidableEq
def Mm.V (m : Mm) : AV := memV m.vol m.per m.pend
attribute [go_sem] Mm.V
def Mm.ok (m : Mm) : Prop := OkM m.vol m.per m.pend
def Mm.okB (m : Mm) : Bool := nI m.vol m.per m.pend
theorem Mm.ok_iff {m : Mm} : m.okB = true ↔ m.ok := aAD
def mmay (x : Mic) (n : Int) : Bool := decide (0 ≤ x.at_) && decide (x.at_ < (if x.kind = 2 then IntKind.i64.wrap (n.tdiv 8) else if x.kind = 1 then n else 0)) && (decide (x.kind = 1) || decide (x.val = 0))
def aAE (n : Int) : Bool := decide (0 ≤ n) && decide (n ≤ 4096) && decide (n.tmod 8 = 0)
def aKH (l : List Mic) (n : Int) : Bool := aAE n && l.all (mmay · n)
def store (m : Mm) (a v : Int) : Mm := ⟨m.vol.set a.toNat v, m.per, m.pend ++ [⟨a, v, false⟩]⟩
def vF (m : Mm) (line : Int) : Mm := ⟨m.vol, lG fFl (gM line m.pend) m.per, mF fFl (gM line m.pend)⟩
def jP (m : Mm) (x : Mic) : Mm := if x.kind = 1 then store m x.at_ x.val else vF m x.at_
def runS (m : Mm) (l : List Mic) : Mm := l.foldl jP m

theorem aLQ (m : Mm) : runS m [] = m := rfl
theorem aAF (m : Mm) (x : Mic) (l : List Mic) : runS m (x :: l) = runS (jP m x) l := rfl
theorem aHI (m : Mm) (a b : List Mic) : runS m (a ++ b) = runS (runS m a) b := List.foldl_append
def MayN (x : Mic) (n : Nat) : Prop := (x.kind = 1 ∧ 0 ≤ x.at_ ∧ x.at_ < (n : Int)) ∨ (x.kind = 2 ∧ 0 ≤ x.at_ ∧ x.at_ < ((n / 8 : Nat) : Int) ∧ x.val = 0)
theorem aGz {x : Mic} {n : Nat} (hn : n ≤ 4096) : mmay x n = true ↔ MayN x n := by
 have e : IntKind.i64.wrap ((n : Int).tdiv 8) = ((n / 8 : Nat) : Int) := by rw [aMD]; exact w64 (by omega) (by omega)
 simp only [mmay, e, Bool.and_eq_true, decide_eq_true_eq, Bool.or_eq_true]
 unfold MayN
 by_cases h2 : x.kind = 2
 · rw [if_pos h2]; omega
 · rw [if_neg h2]
   by_cases h1 : x.kind = 1
   · rw [if_pos h1]; omega
   · rw [if_neg h1]; omega
theorem aKI (m : Mm) (a v : Int) : (store m a v).vol.length = m.vol.length := by simp [store]
theorem aEV (m : Mm) (x : Mic) : (jP m x).vol.length = m.vol.length := by unfold jP; split; exact aKI _ _ _; rfl
theorem aGA : ∀ (l : List Mic) (m : Mm), (runS m l).vol.length = m.vol.length
 | [], m => rfl
 | x :: l, m => by rw [aAF, aGA l, aEV]
theorem tM (m : Mm) (x : Mic) : (jP m x).per.length = m.per.length := by
 unfold jP; split
 · rfl
 · exact aAA _ _ _
theorem aJk {m : Mm} (h : m.ok) (l : Int) : (vF m l).ok := (OkM.flush h l).fence
theorem vV {m : Mm} (h : m.ok) {x : Mic} (hx : MayN x m.vol.length) : (jP m x).ok := by
 unfold jP
 rcases hx with ⟨hk, h0, h1⟩ | ⟨hk, _⟩
 · rw [if_pos hk]; exact OkM.put h h0 h1
 · rw [if_neg (by omega)]; exact aJk h _
theorem aIm : ∀ (l : List Mic) {m : Mm}, m.ok → (∀ x ∈ l, MayN x m.vol.length) → (runS m l).ok
 | [], m, h, _ => h
 | x :: l, m, h, hl => by
   rw [aAF]
   refine aIm l (vV h (hl x (by simp))) fun y hy => ?_
   rw [aEV]; exact hl y (by simp [hy])
theorem aAG : ∀ (l : List Mic) (m : Mm), (runS m l).pend.length ≤ m.pend.length + l.length
 | [], m => by simp [aLQ]
 | x :: l, m => by
   rw [aAF]
   refine Nat.le_trans (aAG l _) ?_
   have : (jP m x).pend.length ≤ m.pend.length + 1 := by
     unfold jP
     split
     · simp [store]
     · refine Nat.le_trans (List.length_filter_le _ _) ?_
       simp [gM]
   simp only [List.length_cons]; omega

def gL (line : Int) (p : Pend) : Bool := p.fl || fLn line p
theorem aAH (line : Int) (f : Pend → Bool) (hf : ∀ p, f p = fFl p) : ∀ l : List Pend, (gM line l).filter f = (l.filter (gL line)).map fun p => if gY p.at_ = line then { p with fl := true } else p
 | [] => rfl
 | p :: r => by
   have ih := aAH line f hf r
   show ((if gY p.at_ = line then { p with fl := true } else p) :: gM line r).filter f = _
   by_cases e : gY p.at_ = line
   · rw [if_pos e, List.filter_cons_of_pos (by rw [hf]; rfl), List.filter_cons_of_pos (by simp [gL, fLn, e]), ih, List.map_cons, if_pos e]
   · rw [if_neg e]
     cases h : p.fl with
     | true => rw [List.filter_cons_of_pos (by rw [hf]; exact h), List.filter_cons_of_pos (by simp [gL, h]), ih, List.map_cons, if_neg e]
     | false => rw [List.filter_cons_of_neg (by rw [hf]; simp [fFl, h]), List.filter_cons_of_neg (by simp [gL, fLn, h, e]), ih]
theorem aAI (m : Mm) (line : Int) : (vF m line).pend = m.pend.filter fun p => !gL line p := by
 show mF fFl (gM line m.pend) = _
 unfold mF
 induction m.pend with
 | nil => rfl
 | cons p r ih =>
   show ((if gY p.at_ = line then { p with fl := true } else p) :: gM line r).filter _ = _
   by_cases e : gY p.at_ = line
   · rw [if_pos e, List.filter_cons_of_neg (by simp [fFl]), List.filter_cons_of_neg (by simp [gL, fLn, e]), ih]
   · rw [if_neg e]
     cases h : p.fl with
     | true => rw [List.filter_cons_of_neg (by simp [fFl, h]), List.filter_cons_of_neg (by simp [gL, h]), ih]
     | false => rw [List.filter_cons_of_pos (by simp [fFl, h]), List.filter_cons_of_pos (by simp [gL, fLn, h, e]), ih]
theorem aIn (g : Pend → Pend) (hg : ∀ p, (g p).at_ = p.at_ ∧ (g p).val = p.val) : ∀ (l : List Pend) (w : List Int), app (l.map g) w = app l w
 | [], w => rfl
 | p :: r, w => by rw [List.map_cons, app, app, (hg p).1, (hg p).2, aIn g hg r]
theorem aHJ (m : Mm) (line : Int) : (vF m line).per = app (m.pend.filter (gL line)) m.per := by
 show lG fFl (gM line m.pend) m.per = _
 rw [aAB, aAH line _ (fun _ => rfl), aIn]
 intro p; split <;> exact ⟨rfl, rfl⟩
theorem aHK (m : Mm) (line : Int) : (vF m line).pend.Sublist m.pend := by rw [aAI]; exact List.filter_sublist
/-! ### Steps whose lines are persisted as they are left: a crash leaves a beginning -/
def isS (x : Mic) : Bool := decide (x.kind = 1)
structure aJl (w : List Int) (m : Mm) (S : List Pend) (o : Option Int) : Prop where
 ok : m.ok
 cut : ∃ i, i ≤ S.length ∧ m.per = app (S.take i) w ∧ m.pend = S.drop i
 one : ∀ p ∈ m.pend, o = some (gY p.at_) ∧ p.fl = false
 all : m.vol = app S w
theorem aJl.store {w : List Int} {m : Mm} {S : List Pend} {o : Option Int} (h : aJl w m S o) {x : Mic} (hk : x.kind = 1) (hx : MayN x m.vol.length) (ho : ∀ L, o = some L → gY x.at_ = L) :
   aJl w (jP m x) (S ++ [⟨x.at_, x.val, false⟩]) (some (gY x.at_)) := by
 have e : jP m x = Lam.store m x.at_ x.val := by unfold jP; rw [if_pos hk]
 refine ⟨vV h.ok hx, ?_, ?_, ?_⟩
 · obtain ⟨i, hi, h1, h2⟩ := h.cut
   refine ⟨i, by simp; omega, ?_, ?_⟩
   · rw [e, List.take_append_of_le_length hi]; exact h1
   · rw [e, List.drop_append_of_le_length hi, ← h2]; rfl
 · intro p hp
   rw [e] at hp
   rcases List.mem_append.1 hp with hp | hp
   · obtain ⟨h1, h2⟩ := h.one p hp
     exact ⟨by rw [ho _ h1], h2⟩
   · rw [List.mem_singleton] at hp; subst hp; exact ⟨rfl, rfl⟩
 · rw [e, zD, ← h.all]; rfl
/-! ### What is seen, and kept, of a eV -/
/-! ### A line's own -/
def aME (x : Mic) : Int := if x.kind = 1 then gY x.at_ else x.at_
def unfl (m : Mm) : Prop := ∀ p ∈ m.pend, p.fl = false
structure tN (L : Int) (m m' : Mm) : Prop where
 ok : m.ok
 ok' : m'.ok
 len : m.per.length = m'.per.length
 un : unfl m
 un' : unfl m'
 per : ∀ p : Nat, p < m.per.length → (p : Int) / 8 = L → m.per.getD p 0 = m'.per.getD p 0
 pend : m.pend.filter (fLn L) = m'.pend.filter (fLn L)
theorem aAJ {m : Mm} (h : unfl m) (x : Mic) : unfl (jP m x) := by
 unfold jP
 split
 · intro p hp
   rcases List.mem_append.1 hp with hp | hp
   · exact h p hp
   · rw [List.mem_singleton] at hp; subst hp; rfl
 · intro p hp; exact h p ((aHK _ _).subset hp)
theorem aSi {m : Mm} (h : unfl m) (L : Int) : m.pend.filter (gL L) = m.pend.filter (fLn L) ∧ m.pend.filter (fun p => !gL L p) = m.pend.filter (fun p => !fLn L p) := by
 constructor <;> apply List.filter_congr <;> intro p hp <;> simp [gL, h p hp]
theorem aAK {m : Mm} (ok : m.ok) (un : unfl m) {x : Mic} {L : Int} : (jP m x).pend.filter (fLn L) = (if x.kind = 1 then m.pend.filter (fLn L) ++ (if gY x.at_ = L then [⟨x.at_, x.val, false⟩] else []) else if x.at_ = L then [] else m.pend.filter (fLn L)) ∧
   ∀ p : Nat, p < m.per.length → (p : Int) / 8 = L → (jP m x).per.getD p 0 = if x.kind = 1 then m.per.getD p 0 else if x.at_ = L then seen p (m.pend.filter (fLn L)) (m.per.getD p 0) else m.per.getD p 0 := by
 unfold jP
 by_cases hk : x.kind = 1
 · rw [if_pos hk, if_pos hk]
   refine ⟨?_, fun p _ _ => by rw [if_pos hk]; rfl⟩
   show (m.pend ++ [_]).filter _ = _
   rw [List.filter_append]
   congr 1
   by_cases e : gY x.at_ = L
   · rw [if_pos e, List.filter_cons_of_pos (show fLn L ⟨x.at_, x.val, false⟩ = true from decide_eq_true e)]; rfl
   · rw [if_neg e, List.filter_cons_of_neg (by unfold fLn; simpa using e)]; rfl
 · rw [if_neg hk, if_neg hk]
   obtain ⟨g1, g2⟩ := aSi un x.at_
   refine ⟨?_, fun p hp hL => ?_⟩
   · rw [aAI, g2, List.filter_filter]
     by_cases e : x.at_ = L
     · rw [if_pos e, e, List.filter_eq_nil_iff]
       intro p _; simp
     · rw [if_neg e]
       apply List.filter_congr
       intro p _
       unfold fLn
       by_cases e2 : gY p.at_ = L
       · rw [e2, decide_eq_true rfl, decide_eq_false (fun h => e h.symm)]; rfl
       · rw [decide_eq_false e2]; rfl
   · rw [aHJ, g1, vU _ _ _ hp, if_neg hk]
     by_cases e : x.at_ = L
     · rw [if_pos e, e]
     · rw [if_neg e, aES]
       intro q hq e2
       obtain ⟨hq1, hq2⟩ := List.mem_filter.1 hq
       have := aNS ok hq1 e2
       unfold fLn at this hq2
       rw [decide_eq_true_eq] at this hq2
       rw [hL] at this
       exact e (hq2.symm.trans this)
theorem tN.same {L : Int} {m m' : Mm} (h : tN L m m') {x : Mic} (hx : MayN x m.vol.length) : tN L (jP m x) (jP m' x) := by
 obtain ⟨p1, p2⟩ := aAK h.ok h.un (x := x) (L := L)
 obtain ⟨q1, q2⟩ := aAK h.ok' h.un' (x := x) (L := L)
 have hlen : m.vol.length = m'.vol.length := by rw [OkM.len h.ok, OkM.len h.ok', h.len]
 refine ⟨vV h.ok hx, vV h.ok' (by rw [← hlen]; exact hx), by rw [tM, tM]; exact h.len, aAJ h.un x, aAJ h.un' x, fun p hp hL => ?_, by rw [p1, q1, h.pend]⟩
 rw [tM] at hp
 rw [p2 p hp hL, q2 p (by rw [← h.len]; exact hp) hL, h.per p hp hL, h.pend]
theorem tN.skip {L : Int} {m m' : Mm} (h : tN L m m') {x : Mic} (hx : MayN x m.vol.length) (hne : aME x ≠ L) : tN L (jP m x) m' := by
 obtain ⟨p1, p2⟩ := aAK h.ok h.un (x := x) (L := L)
 unfold aME at hne
 refine ⟨vV h.ok hx, h.ok', by rw [tM]; exact h.len, aAJ h.un x, h.un', fun p hp hL => ?_, ?_⟩
 · rw [tM] at hp
   rw [p2 p hp hL, ← h.per p hp hL]
   by_cases hk : x.kind = 1
   · rw [if_pos hk]
   · rw [if_neg hk] at hne ⊢; rw [if_neg hne]
 · rw [p1, ← h.pend]
   by_cases hk : x.kind = 1
   · rw [if_pos hk] at hne ⊢
     rw [if_neg hne, List.append_nil]
   · rw [if_neg hk] at hne ⊢; rw [if_neg hne]
theorem tN.refl {L : Int} {m : Mm} (ok : m.ok) (un : unfl m) : tN L m m := ⟨ok, ok, rfl, un, un, fun _ _ _ => rfl, rfl⟩
end Lam
namespace Lam
open Go

def rO (b : Int) : Bool := decide (0 ≤ b) && decide (IntKind.i64.wrap (b + 16) ≤ 4096) && decide (b.tmod 16 = 0)
theorem zE {b : Int} (h : b ≤ 1099511627776) : rO b = true ↔ 0 ≤ b ∧ b ≤ 4080 ∧ b % 16 = 0 := by
 unfold rO
 simp only [Bool.and_eq_true, decide_eq_true_eq]
 constructor
 · rintro ⟨⟨h0, h1⟩, h2⟩
   rw [w64 (by omega) (by omega)] at h1
   rw [Int.tmod_eq_emod_of_nonneg h0] at h2
   omega
 · rintro ⟨h0, h1, h2⟩
   rw [w64 (by omega) (by omega), Int.tmod_eq_emod_of_nonneg h0]
   omega
def pA (base slot : Int) : Int := if (rO base && decide (0 ≤ slot) && decide (slot < 13)) = true then IntKind.i64.wrap (IntKind.i64.wrap (base + 3) + slot) else -1
theorem aGB {b s : Int} (hb : rO b = true) (h : b ≤ 1099511627776) (h0 : 0 ≤ s) (h1 : s < 13) : pA b s = b + 3 + s := by
 have := (zE h).1 hb
 unfold pA
 rw [hb, decide_eq_true h0, decide_eq_true h1]
 rw [if_pos (by rfl), w64 (n := b + 3) (by omega) (by omega), w64 (by omega) (by omega)]
def lt1 (n : Int) : Bool := decide (n < 1)
def idxI (p : Int → Bool) (l : List Int) : Int := if l.any p = true then (l.findIdx p : Nat) else -1
def upTo (l : List Int) : List Int := l.takeWhile fun w => !lt1 w
def mL (words : List Int) (base : Int) : List Int := if (rO base && decide (base + 16 ≤ (words.length : Int))) = true then upTo ((words.drop (base.toNat + 3)).take 13) else []
theorem aLR (l : List Int) : l.take (if idxI lt1 l < 0 then (l.length : Int) else idxI lt1 l).toNat = upTo l := by
 unfold idxI upTo
 induction l with
 | nil => rfl
 | cons a r ih =>
   rw [List.any_cons, List.findIdx_cons, List.takeWhile_cons]
   cases ha : lt1 a with
   | true => simp
   | false =>
     simp only [Bool.false_or, Bool.not_false, if_true, cond_false]
     cases hr : r.any lt1 with
     | true =>
       rw [hr] at ih
       simp only [if_true] at ih ⊢
       rw [if_neg (by omega)] at ih ⊢
       rw [← ih]
       simp
     | false =>
       rw [hr] at ih
       simp only [Bool.false_eq_true, if_false] at ih ⊢
       rw [if_pos (by omega)] at ih ⊢
       rw [← ih]
       simp
theorem aJm (p : Int → Bool) (l : List Int) : -1 ≤ idxI p l ∧ idxI p l ≤ (l.length : Int) := by
 unfold idxI
 split
 · have := List.findIdx_le_length (p := p) (xs := l)
   omega
 · omega

def plain : List Int → List Int
 | [] => []
 | [a] => [a]
 | a :: b :: r => if a = b then plain (b :: r) else a :: plain (b :: r)
theorem uR : ∀ (l : List Int) (x : Int), plain (l ++ [x]) = if l.getLast? = some x then plain l else plain l ++ [x]
 | [], x => by simp [plain]
 | [a], x => by
   simp only [List.cons_append, List.nil_append, plain, List.getLast?_singleton, Option.some.injEq]
   by_cases e : a = x
   · simp [e]
   · simp [e]
 | a :: b :: r, x => by
   have ih := uR (b :: r) x
   simp only [List.cons_append] at ih ⊢
   rw [plain, ih, List.getLast?_cons_cons]
   split <;> split <;> simp_all [plain]
theorem wN : ∀ l : List Int, (plain l).length ≤ l.length
 | [] => Nat.le_refl _
 | [a] => Nat.le_refl _
 | a :: b :: r => by
   have := wN (b :: r)
   rw [plain]
   split
   · simp only [List.length_cons] at this ⊢; omega
   · simp only [List.length_cons] at this ⊢; omega
theorem aDv {l : List Int} {k : Nat} (h0 : 0 < k) (hk : k < l.length) : plain (l.take (k + 1)) = if l.getD k 0 = l.getD (k - 1) 0 then plain (l.take k) else plain (l.take k) ++ [l.getD k 0] := by
 rw [gQ l k 0 hk, uR]
 have : (l.take k).getLast? = some (l.getD (k - 1) 0) := by
   rw [List.getLast?_eq_getElem?, List.getElem?_take, List.length_take, List.getD_eq_getElem?_getD]
   have e : min k l.length - 1 = k - 1 := by omega
   rw [e, if_pos (by omega), List.getElem?_eq_getElem (by omega)]; rfl
 rw [this]
 by_cases e : l.getD k 0 = l.getD (k - 1) 0
 · rw [if_pos e, if_pos (by rw [e])]
 · rw [if_neg e, if_neg (fun h => e (Option.some.inj h).symm)]
theorem zF : ∀ (l : List Int), (∀ i, 0 < i → i < l.length → l.getD i 0 ≠ l.getD (i - 1) 0) → plain l = l
 | [], _ => rfl
 | [a], _ => rfl
 | a :: b :: r, h => by
   have h1 := h 1 (by omega) (by simp)
   have h1 : b ≠ a := h1
   rw [plain, if_neg (fun e => h1 e.symm), zF (b :: r) fun i h0 hi => ?_]
   have := h (i + 1) (by omega) (by simpa using hi)
   obtain ⟨j, rfl⟩ : ∃ j, i = j + 1 := ⟨i - 1, by omega⟩
   simpa using this
/-! ### Steps by which slots are stored -/
end Lam
namespace Lam
open Go

/-! ### A memory of two nodes -/
theorem aJn (z : List Int) (n : Nat) : upTo (z ++ List.replicate n 0) = upTo z := by
 unfold upTo
 induction z with
 | nil => cases n with
   | zero => rfl
   | succ n => rw [List.nil_append, List.replicate_succ, List.takeWhile_cons]; rfl
 | cons a r ih => rw [List.cons_append, List.takeWhile_cons, List.takeWhile_cons, ih]
theorem aLS {z : List Int} (h : ∀ x ∈ z, 0 < x) : upTo z = z := by
 unfold upTo
 induction z with
 | nil => rfl
 | cons a r ih =>
   have : lt1 a = false := decide_eq_false (by have := h a (by simp); omega)
   rw [List.takeWhile_cons, this, ih fun x hx => h x (by simp [hx])]; rfl
/-! ### Unlike slots -/
/-! ### Steps by which slots are stored, of the second node -/
def aIo (l : List aAW) : Prop := ∀ s ∈ l, 0 ≤ s.at_ ∧ s.at_ < 13
theorem aIo.get {l : List aAW} (h : aIo l) {n : Nat} (hn : n < l.length) : 0 ≤ (l.getD n ⟨0, 0⟩).at_ ∧ (l.getD n ⟨0, 0⟩).at_ < 13 := h _ (lK l n _ hn)
end Lam
namespace Lam
open Go
theorem aKJ (l : List Int) (n q : Nat) : (l.take n).getD q 0 = if q < n then l.getD q 0 else 0 := by
 rw [List.getD_eq_getElem?_getD, List.getElem?_take, List.getD_eq_getElem?_getD]; split <;> rfl
theorem aKK (l : List Int) (n q : Nat) : (l.drop n).getD q 0 = l.getD (n + q) 0 := by
 rw [List.getD_eq_getElem?_getD, List.getElem?_drop, List.getD_eq_getElem?_getD]
/-! ### Insert -/
/-! ### Delete -/
/-! ### Cut, swap -/
/-! ### How far -/
end Lam
namespace Lam
open Go
structure Nd where
 level : Int
 turn : Int
 next : Int
 low : Int
 slots : List Int
 deriving DecidableEq
def Nd.V (n : Nd) : AV := .agg [.int .i64 n.level, .int .i64 n.turn, .int .i64 n.next, .int .i64 n.low, .sl false (.ints .i64 n.slots)]
attribute [go_sem] Nd.V
def vG (n : Int) : Bool := decide (n = 0) || !(decide (0 ≤ n) && decide (n < 256))
def rP (n : Int) : Bool := decide (0 ≤ n) && decide (n < 256)
def Nd.ok (n : Nd) : Prop := 0 ≤ n.level ∧ n.level ≤ 9 ∧ 0 ≤ n.turn ∧ n.turn ≤ 1099511627776 ∧ (0 ≤ n.next ∧ n.next < 256) ∧ (0 ≤ n.low ∧ n.low < 256) ∧ n.slots.length ≤ 13 ∧ ∀ x ∈ n.slots, 1 ≤ x ∧ x < 256
def ndB (n : Nd) : Bool := decide (0 ≤ n.level) && decide (n.level ≤ 9) && decide (0 ≤ n.turn) && decide (n.turn ≤ 1099511627776) && rP n.next && rP n.low && decide (n.slots.length ≤ 13) && !n.slots.any vG
theorem xY {n : Nd} : ndB n = true ↔ n.ok := by
 unfold ndB Nd.ok rP vG
 simp only [Bool.and_eq_true, decide_eq_true_eq, Bool.not_eq_true', List.any_eq_false, Bool.or_eq_true, Bool.and_eq_false_iff, decide_eq_false_iff_not, not_or, not_and, Bool.not_eq_false']
 constructor
 · rintro ⟨⟨⟨⟨⟨⟨⟨h1, h2⟩, h3⟩, h4⟩, h5⟩, h6⟩, h7⟩, h8⟩
   exact ⟨h1, h2, h3, h4, h5, h6, h7, fun x hx => by have := h8 x hx; omega⟩
 · rintro ⟨h1, h2, h3, h4, h5, h6, h7, h8⟩
   exact ⟨⟨⟨⟨⟨⟨⟨h1, h2⟩, h3⟩, h4⟩, h5⟩, h6⟩, h7⟩, fun x hx => by have := h8 x hx; omega⟩
def aAL (n : Nd) : Int := 1152921504606846976 + 16 * n.turn + n.level
def gK (n : Nd) : List Int := aAL n :: n.next :: n.low :: (n.slots ++ List.replicate (13 - n.slots.length) 0)
theorem aAM {n : Nd} (h : n.ok) : (gK n).length = 16 := by
 have := h.2.2.2.2.2.2.1
 simp [gK]; omega
def pB (d : List Int → Nd) (w : List Int) : Option Nd := if (ndB (d w) && decide (gK (d w) = w)) = true then some (d w) else none
theorem xD {d : List Int → Nd} {w : List Int} {n : Nd} (h : pB d w = some n) : n.ok ∧ gK n = w := by
 unfold pB at h
 split at h
 · rename_i hc
   rw [Bool.and_eq_true, decide_eq_true_eq] at hc
   cases h
   exact ⟨xY.1 hc.1, hc.2⟩
 · cases h
theorem aEW {d : List Int → Nd} (hd : ∀ n, n.ok → d (gK n) = n) {n : Nd} (h : n.ok) : pB d (gK n) = some n := by
 unfold pB
 rw [hd n h, xY.2 h, decide_eq_true rfl]; rfl
theorem aKL {d d' : List Int → Nd} (hd : ∀ n, n.ok → d (gK n) = n) (hd' : ∀ n, n.ok → d' (gK n) = n) (w : List Int) : pB d w = pB d' w := by
 cases h : pB d w with
 | some n =>
   obtain ⟨h1, rfl⟩ := xD h
   rw [aEW hd' h1]
 | none =>
   cases h' : pB d' w with
   | none => rfl
   | some n =>
     obtain ⟨h1, rfl⟩ := xD h'
     rw [aEW hd h1] at h; cases h
def decN (w : List Int) : Nd := ⟨(w.getD 0 0 - 1152921504606846976) % 16, (w.getD 0 0 - 1152921504606846976) / 16, w.getD 1 0, w.getD 2 0, upTo (w.drop 3)⟩
theorem aDw {n : Nd} (h : n.ok) : upTo ((gK n).drop 3) = n.slots := by
 show upTo (n.slots ++ _) = _
 rw [aJn, aLS fun x hx => by have := h.2.2.2.2.2.2.2 x hx; omega]
theorem aJo {n : Nd} (h : n.ok) : decN (gK n) = n := by
 unfold decN
 rw [aDw h]
 have h5 := h.1
 have h6 := h.2.1
 have e0 : (gK n).getD 0 0 = 1152921504606846976 + 16 * n.turn + n.level := rfl
 have e1 : (gK n).getD 1 0 = n.next := rfl
 have e2 : (gK n).getD 2 0 = n.low := rfl
 rw [e0, e1, e2]
 cases n
 simp only at *
 simp only [Nd.mk.injEq, and_true]
 exact ⟨by omega, by omega⟩
def aDx (w : List Int) : Option Nd := pB decN w
theorem aDy {w : List Int} {n : Nd} (h : aDx w = some n) : n.ok ∧ gK n = w := xD h
def kS (words : List Int) (k : Nat) : List Int := (words.drop (16 * k)).take 16
def jM : Nd := ⟨0, 0, 0, 0, []⟩
/-! ### Bits -/
theorem aEh {a b : Nat} (h : a ||| b < 2 ^ 63) (ha : a < 2 ^ 63) (hb : b < 2 ^ 63) : orI .i64 a b = ((a ||| b : Nat) : Int) := by
 have e : (BitVec.ofInt 64 (a : Int) ||| BitVec.ofInt 64 (b : Int)).toNat = a ||| b := by
   rw [BitVec.toNat_or, BitVec.ofInt_natCast, BitVec.ofInt_natCast, BitVec.toNat_ofNat, BitVec.toNat_ofNat, Nat.mod_eq_of_lt (by omega), Nat.mod_eq_of_lt (by omega)]
 show IntKind.i64.wrap ((BitVec.ofInt 64 (a : Int) ||| BitVec.ofInt 64 (b : Int)).toNat) = _
 rw [e]
 exact w64 (by omega) (by omega)
theorem aLT {a b : Nat} (ha : a < 2 ^ 63) (hb : b < 2 ^ 63) : andI .i64 a b = ((a &&& b : Nat) : Int) := by
 have e : (BitVec.ofInt 64 (a : Int) &&& BitVec.ofInt 64 (b : Int)).toNat = a &&& b := by
   rw [BitVec.toNat_and, BitVec.ofInt_natCast, BitVec.ofInt_natCast, BitVec.toNat_ofNat, BitVec.toNat_ofNat, Nat.mod_eq_of_lt (by omega), Nat.mod_eq_of_lt (by omega)]
 have hle : a &&& b ≤ a := Nat.and_le_left
 show IntKind.i64.wrap ((BitVec.ofInt 64 (a : Int) &&& BitVec.ofInt 64 (b : Int)).toNat) = _
 rw [e]
 exact w64 (by omega) (by omega)
theorem aDz {i a b : Nat} (h : b < 2 ^ i) : 2 ^ i * a ||| b = 2 ^ i * a + b := (Nat.two_pow_add_eq_or_of_lt h a).symm
theorem aJp {r : Nat} (h : r < 2 ^ 60) : xX .i64 ((1152921504606846976 + r : Nat) : Int) 1152921504606846976 = (r : Int) := by
 have e : (BitVec.ofInt 64 ((1152921504606846976 + r : Nat) : Int) &&& ~~~ BitVec.ofInt 64 1152921504606846976).toNat = r := by
   have h1 : BitVec.ofInt 64 (1152921504606846976 : Int) = BitVec.ofNat 64 (2 ^ 60) := by decide
   have h2 : 1152921504606846976 + r = 2 ^ 60 * 1 ||| r := by rw [aDz h]
   rw [h1, BitVec.ofInt_natCast, h2]
   have h3 : BitVec.ofNat 64 (2 ^ 60 * 1 ||| r) = BitVec.ofNat 64 (2 ^ 60) ||| BitVec.ofNat 64 r := by
     apply BitVec.eq_of_toNat_eq
     rw [BitVec.toNat_or, BitVec.toNat_ofNat, BitVec.toNat_ofNat, BitVec.toNat_ofNat, Nat.mod_eq_of_lt (by rw [aDz h]; omega), Nat.mod_eq_of_lt (by omega), Nat.mod_eq_of_lt (by omega)]
   rw [h3]
   have h4 : (BitVec.ofNat 64 (2 ^ 60) ||| BitVec.ofNat 64 r) &&& ~~~ BitVec.ofNat 64 (2 ^ 60) = BitVec.ofNat 64 r := by
     apply BitVec.eq_of_getLsbD_eq
     intro i hi
     rw [BitVec.getLsbD_and, BitVec.getLsbD_or, BitVec.getLsbD_not, BitVec.getLsbD_ofNat, BitVec.getLsbD_ofNat, Nat.testBit_two_pow]
     by_cases e : 60 = i
     · subst e
       have : r.testBit 60 = false := Nat.testBit_lt_two_pow h
       rw [this]; simp
     · simp [e, hi]
   rw [h4, BitVec.toNat_ofNat, Nat.mod_eq_of_lt (by omega)]
 show IntKind.i64.wrap ((BitVec.ofInt 64 ((1152921504606846976 + r : Nat) : Int) &&& ~~~ BitVec.ofInt 64 1152921504606846976).toNat) = _
 rw [e]
 exact w64 (by omega) (by omega)
theorem aJq {a b : Int} (ha : 0 ≤ a) (ha2 : a < 16) (hb : 0 ≤ b) (hb2 : b ≤ 1099511627776) : orI .i64 (orI .i64 1152921504606846976 (IntKind.i64.wrap (b * 2 ^ min 4 64))) a = 1152921504606846976 + 16 * b + a := by
 obtain ⟨m, rfl⟩ := Int.eq_ofNat_of_zero_le ha
 obtain ⟨t, rfl⟩ := Int.eq_ofNat_of_zero_le hb
 have e1 : IntKind.i64.wrap ((t : Int) * 2 ^ min 4 64) = ((t * 16 : Nat) : Int) := by
   rw [show (2 : Int) ^ min 4 64 = 16 from by decide, show (t : Int) * 16 = ((t * 16 : Nat) : Int) from by simp]
   exact w64 (by omega) (by omega)
 have hlt : t * 16 < 2 ^ 60 := by omega
 have o1 : (2 ^ 60 * 1 ||| t * 16) = 2 ^ 60 + t * 16 := by rw [aDz hlt]
 have e2 : orI .i64 1152921504606846976 ((t * 16 : Nat) : Int) = ((2 ^ 60 + t * 16 : Nat) : Int) := by
   have := aEh (a := 2 ^ 60 * 1) (b := t * 16) (by rw [o1]; omega) (by omega) (by omega)
   rw [o1] at this
   exact this
 have o2 : (2 ^ 60 + t * 16 ||| m) = 2 ^ 60 + t * 16 + m := by
   have : 2 ^ 60 + t * 16 = 2 ^ 4 * (2 ^ 56 + t) := by omega
   rw [this, aDz (by omega)]
 rw [e1, e2, aEh (by rw [o2]; omega) (by omega) (by omega), o2]
 omega
def decP (w : List Int) : Nd := ⟨andI .i64 (w.getD 0 0) 15, (xX .i64 (w.getD 0 0) 1152921504606846976).fdiv (2 ^ min 4 64), w.getD 1 0, w.getD 2 0, mL w 0⟩
theorem aJr {n : Nd} (h : n.ok) : decP (gK n) = n := by
 unfold decP
 have hs : mL (gK n) 0 = n.slots := by
   unfold mL
   rw [aAM h, if_pos (by decide)]
   have := h.2.2.2.2.2.2.1
   rw [show (0 : Int).toNat + 3 = 3 from rfl, List.take_of_length_le (by simp [gK]; omega), aDw h]
 have h5 := h.1
 have h6 := h.2.1
 have h7 := h.2.2.1
 have h8 := h.2.2.2.1
 have e1 : (gK n).getD 1 0 = n.next := rfl
 have e2 : (gK n).getD 2 0 = n.low := rfl
 obtain ⟨m, hm⟩ := Int.eq_ofNat_of_zero_le h5
 obtain ⟨t, ht⟩ := Int.eq_ofNat_of_zero_le h7
 have e0 : (gK n).getD 0 0 = ((1152921504606846976 + (16 * t + m) : Nat) : Int) := by
   show 1152921504606846976 + 16 * n.turn + n.level = _
   omega
 have a1 : andI .i64 ((1152921504606846976 + (16 * t + m) : Nat) : Int) 15 = (m : Int) := by
   have := aLT (a := 1152921504606846976 + (16 * t + m)) (b := 15) (by omega) (by omega)
   rw [show (15 : Nat) = 2 ^ 4 - 1 from rfl, Nat.and_two_pow_sub_one_eq_mod] at this
   refine this.trans ?_
   omega
 rw [hs, e0, e1, e2, a1, aJp (by omega), show (2 : Int) ^ min 4 64 = 16 from by decide, Int.fdiv_eq_ediv_of_nonneg _ (by decide)]
 cases n
 simp only at *
 simp only [Nd.mk.injEq, and_true]
 exact ⟨by omega, by omega⟩
theorem aLU (w : List Int) : pB decP w = aDx w := aKL (fun n h => aJr h) (fun n h => aJo h) w
theorem aFz (w : List Int) (b : Int) : roomy (mL w b).length := by
 unfold mL
 split
 · unfold upTo
   have := (List.takeWhile_sublist (l := (w.drop (b.toNat + 3)).take 13) fun x => !lt1 x).length_le
   rw [List.length_take] at this
   unfold roomy; omega
 · unfold roomy; simp
end Lam
namespace Lam
open Go
def aMF (a b : Int) : Int := xorI .u32 a b
def aMG (a b : Int) : Int := andI .u32 a b
def bitS (c : Int) : Int := aMF (c.fdiv (2 ^ min (Int.toNat 1) 32)) (aMG 3988292384 (IntKind.u32.wrap (0 - aMG c 1)))
def bitN : Nat → Int → Int
 | 0, c => c
 | n + 1, c => bitS (bitN n c)
def tabE (i : Nat) : Int := bitN 8 (IntKind.u32.wrap i)
def tabL : List Int := (List.range 256).map tabE
def aMH (t : List Int) (c b : Int) : Int := aMF (c.fdiv (2 ^ min (Int.toNat 8) 32)) (t.getD (xorI .u8 (IntKind.u8.wrap c) b).toNat 0)
def aNT (w : Int) (k : Nat) : Int := IntKind.u8.wrap ((IntKind.u64.wrap w).fdiv (2 ^ min (Int.toNat (56 - 8 * k)) 64))
def aFI (t : List Int) (w : Int) : Nat → Int → Int
 | 0, c => c
 | k + 1, c => aMH t (aFI t w k c) (aNT w k)
def aJs (t : List Int) (c w : Int) : Int := aFI t w 8 c
def sumC (l : List Int) : Int := l.foldl (aJs tabL) 4294967295
def aBj (l : List Int) : Int := IntKind.i64.wrap (notI .u32 (sumC l))
theorem aLV : tabL.length = 256 := by simp [tabL]
/-! ### As naturals -/
/-! ### As the reference has it -/
end Lam
namespace Lam
open Go
def pv (p : aY) : Nat := p.foldl (fun a b => a * 256 + b.toNat) 0
def pw (p : aY) : Nat := pv p * 256 ^ (7 - p.length)
def pC (s : aY) (k : Nat) : aY := (s.drop (7 * k)).take 7
def iK (s : aY) : Nat := (s.length + 6) / 7
def keyW (s : aY) : List Int := (List.range (iK s)).map fun k => (pw (pC s k) : Int)

theorem aHL (x b m : Nat) (hb : b < 256) : x * 2 ^ (m + 8) ||| b * 2 ^ m = (x * 256 + b) * 2 ^ m := by
 have e1 : x * 2 ^ (m + 8) = (x <<< 8) <<< m := by rw [Nat.shiftLeft_eq, Nat.shiftLeft_eq, Nat.pow_add, Nat.mul_assoc, Nat.mul_comm (2 ^ m)]
 have e2 : b * 2 ^ m = b <<< m := by rw [Nat.shiftLeft_eq]
 have e3 : (x * 256 + b) * 2 ^ m = (x <<< 8 + b) <<< m := by rw [Nat.shiftLeft_eq, Nat.shiftLeft_eq]
 rw [e1, e2, e3, ← Nat.shiftLeft_or_distrib, Nat.shiftLeft_add_eq_or_of_lt (by omega)]

theorem aIp (p : aY) (b : UInt8) : pv (p ++ [b]) = pv p * 256 + b.toNat := by simp [pv]
theorem aJt : ∀ (p : aY), pv p < 256 ^ p.length := by
 intro p
 have key : ∀ (p : aY) (a n : Nat), a < 256 ^ n → p.foldl (fun a b => a * 256 + b.toNat) a < 256 ^ (n + p.length) := by
   intro p
   induction p with
   | nil => intro a n h; simpa using h
   | cons b r ih =>
     intro a n h
     have hb : b.toNat < 256 := b.toNat_lt
     have := ih (a * 256 + b.toNat) (n + 1) (by rw [Nat.pow_succ]; omega)
     simpa [Nat.add_assoc, Nat.add_comm 1] using this
 have := key p 0 0 (by simp)
 simpa [pv] using this

theorem aNd (p : aY) {j : Nat} (hp : p.length ≤ 7) (hj : j < p.length) :
   orI .i64 ((pv (p.take j) * 256 ^ (7 - j) : Nat) : Int) (IntKind.i64.wrap (IntKind.i64.wrap ((p.getD j 0).toNat : Int) * 2 ^ min (IntKind.i64.wrap (8 * IntKind.i64.wrap (6 - (j : Int)))).toNat 64)) = ((pv (p.take (j + 1)) * 256 ^ (7 - (j + 1)) : Nat) : Int) := by
 have hb : (p.getD j 0).toNat < 256 := (p.getD j 0).toNat_lt
 have hx : pv (p.take j) < 256 ^ j := by have := aJt (p.take j); rwa [List.length_take, Nat.min_eq_left (by omega)] at this
 rw [gQ p j 0 hj, aIp]
 generalize (p.getD j 0).toNat = b at *
 generalize pv (p.take j) = x at *
 have e1 : IntKind.i64.wrap (6 - (j : Int)) = ((6 - j : Nat) : Int) := by rw [w64 (by omega) (by omega)]; omega
 have e2 : IntKind.i64.wrap (8 * ((6 - j : Nat) : Int)) = ((8 * (6 - j) : Nat) : Int) := by rw [w64 (by omega) (by omega)]; omega
 have e3 : IntKind.i64.wrap ((b : Nat) : Int) = (b : Int) := w64 (by omega) (by omega)
 have hm : 8 * (6 - j) ≤ 48 := by omega
 have e4 : (256 : Nat) ^ (7 - j) = 2 ^ (8 * (6 - j) + 8) := by rw [show (256 : Nat) = 2 ^ 8 from rfl, ← Nat.pow_mul]; congr 1; omega
 have e5 : (256 : Nat) ^ (7 - (j + 1)) = 2 ^ (8 * (6 - j)) := by rw [show (256 : Nat) = 2 ^ 8 from rfl, ← Nat.pow_mul]; congr 1; omega
 rw [e1, e2, e3, Int.toNat_natCast, Nat.min_eq_left (by omega), e4, e5]
 have hpm : (2 : Nat) ^ (8 * (6 - j)) ≤ 2 ^ 48 := Nat.pow_le_pow_right (by omega) hm
 have hbm : b * 2 ^ (8 * (6 - j)) < 2 ^ 63 := by
   have : b * 2 ^ (8 * (6 - j)) ≤ 255 * 2 ^ 48 := Nat.mul_le_mul (by omega) hpm
   omega
 have ec : ((b : Int) * 2 ^ (8 * (6 - j))) = ((b * 2 ^ (8 * (6 - j)) : Nat) : Int) := by push_cast; rfl
 rw [ec, w64 (by omega) (by omega)]
 have hor := aHL x b (8 * (6 - j)) hb
 have hall : (x * 256 + b) * 2 ^ (8 * (6 - j)) < 2 ^ 63 := by
   have h1 : x * 256 + b < 256 ^ (j + 1) := by rw [Nat.pow_succ]; omega
   have h2 : (256 : Nat) ^ (j + 1) * 2 ^ (8 * (6 - j)) = 2 ^ 56 := by
     rw [show (256 : Nat) = 2 ^ 8 from rfl, ← Nat.pow_mul, ← Nat.pow_add]; congr 1; omega
   have h3 : (x * 256 + b) * 2 ^ (8 * (6 - j)) ≤ 256 ^ (j + 1) * 2 ^ (8 * (6 - j)) := Nat.mul_le_mul_right _ (by omega)
   omega
 have hle : x * 2 ^ (8 * (6 - j) + 8) ≤ x * 2 ^ (8 * (6 - j) + 8) ||| b * 2 ^ (8 * (6 - j)) := Nat.left_le_or
 rw [aEh (by rw [hor]; exact hall) (by omega) hbm, hor]

theorem aJu (s : aY) {k : Nat} (hk : k < iK s) : (keyW s).getD k 0 = (pw (pC s k) : Int) := by
 simp [keyW, List.getD_eq_getElem?_getD, hk]

def rQ (w : Int) (i : Nat) : Int := IntKind.u8.wrap (w.fdiv (2 ^ (8 * (6 - i))))
def rR (w : Int) : List Int := (List.range 7).map (rQ w)
def jV (l : List Int) : List Int := l.flatMap rR
def wMay (w : Int) : Bool := decide (0 ≤ w) && decide (w < 72057594037927936)
def lenT (n : Int) : Int := IntKind.i64.wrap (IntKind.i64.wrap (n.tdiv 7) + (if n.tmod 7 < 1 then n.tmod 7 else 1))
def nU (l : List Int) (n : Int) : Bool := !decide (n < 0) && decide ((l.length : Int) = lenT n) && l.all wMay && ((jV l).drop n.toNat).all (fun b => decide (b = 0))
def wO (l : List Int) (n : Int) : aY := ((jV l).take n.toNat).map fun b => UInt8.ofNat b.toNat
theorem aGC (m : Nat) (h : (m : Int) < 9223372036854775808) : lenT m = ((m + 6) / 7 : Nat) := by
 unfold lenT
 have e1 : (m : Int).tdiv 7 = ((m / 7 : Nat) : Int) := rfl
 have e2 : (m : Int).tmod 7 = ((m % 7 : Nat) : Int) := rfl
 rw [e1, e2, w64 (n := ((m / 7 : Nat) : Int)) (by omega) (by omega)]
 split
 · rw [w64 (by omega) (by omega)]; omega
 · rw [w64 (by omega) (by omega)]; omega

theorem aKM (l : List Int) : (jV l).length = 7 * l.length := by
 induction l with
 | nil => rfl
 | cons w r ih => simp only [jV, List.flatMap_cons, List.length_append, List.length_cons] at ih ⊢; rw [ih]; simp [rR]; omega
theorem aHM (w : Int) (i : Nat) : 0 ≤ rQ w i ∧ rQ w i < 256 := aGy _

/-! ### Words and bytes -/
theorem aEX (p q : aY) : pv (p ++ q) = pv p * 256 ^ q.length + pv q := by
 have key : ∀ (q : aY) (a : Nat), q.foldl (fun a b => a * 256 + b.toNat) a = a * 256 ^ q.length + pv q := by
   intro q
   induction q with
   | nil => intro a; simp [pv]
   | cons b r ih =>
     intro a
     have h1 := ih (a * 256 + b.toNat)
     have h2 := ih b.toNat
     have h3 : pv (b :: r) = r.foldl (fun a b => a * 256 + b.toNat) b.toNat := by simp [pv]
     rw [h3, h2, List.foldl_cons, h1, List.length_cons, Nat.pow_succ, Nat.add_mul]
     rw [Nat.mul_assoc a 256, Nat.mul_comm 256]
     omega
 have := key q (pv p)
 rw [← this]
 simp [pv]

theorem aLW (n : Nat) : pv (List.replicate n 0) = 0 := by
 induction n with
 | zero => rfl
 | succ n ih => simpa [pv, List.replicate_succ] using ih

def padB (p : aY) : aY := p ++ List.replicate (7 - p.length) 0
theorem aKN (p : aY) : pw p = pv (padB p) := by
 unfold pw padB
 rw [aEX, aLW, List.length_replicate, Nat.add_zero]
theorem aGD {p : aY} (h : p.length ≤ 7) : (padB p).length = 7 := by simp [padB]; omega

theorem aNU (q : aY) {i : Nat} (hi : i < q.length) : pv q / 256 ^ (q.length - 1 - i) % 256 = (q.getD i 0).toNat := by
 have e : q = q.take (i + 1) ++ q.drop (i + 1) := (List.take_append_drop _ _).symm
 have hd : (q.drop (i + 1)).length = q.length - 1 - i := by simp; omega
 have hlt := aJt (q.drop (i + 1))
 have e2 : pv q = pv (q.take (i + 1)) * 256 ^ (q.length - 1 - i) + pv (q.drop (i + 1)) := by
   conv => lhs; rw [e]
   rw [aEX, hd]
 rw [hd] at hlt
 have hpos : 0 < 256 ^ (q.length - 1 - i) := Nat.pow_pos (by omega)
 rw [e2, Nat.mul_comm, Nat.mul_add_div hpos, Nat.div_eq_of_lt hlt, Nat.add_zero, gQ q i 0 hi, aIp]
 have := (q.getD i 0).toNat_lt
 omega

theorem aKO (n i : Nat) : rQ n i = ((n / 256 ^ (6 - i) % 256 : Nat) : Int) := by
 unfold rQ
 have e : (2 : Int) ^ (8 * (6 - i)) = ((256 ^ (6 - i) : Nat) : Int) := by
   rw [show (256 : Nat) = 2 ^ 8 from rfl, ← Nat.pow_mul]; push_cast; rfl
 rw [e]
 have e2 : (n : Int).fdiv ((256 ^ (6 - i) : Nat) : Int) = ((n / 256 ^ (6 - i) : Nat) : Int) := by
   rw [Int.fdiv_eq_ediv_of_nonneg _ (Int.natCast_nonneg _)]; exact (Int.natCast_ediv _ _).symm
 rw [e2]
 simp [IntKind.wrap, IntKind.bits, IntKind.signed]

def nV (p : aY) : List Int := p.map fun b => (b.toNat : Int)
theorem aEY (p : aY) : (nV p).length = p.length := by simp [nV]

theorem aKP {q : aY} (h : q.length = 7) : rR (pv q : Nat) = nV q := by
 apply List.ext_getElem
 · simp [rR, nV, h]
 intro i h1 h2
 have hi : i < q.length := by simpa [nV] using h2
 simp only [rR, nV, List.getElem_map, List.getElem_range]
 rw [aKO]
 have := aNU q hi
 rw [h] at this
 rw [show 6 - i = 7 - 1 - i by omega, this, List.getD_eq_getElem?_getD, List.getElem?_eq_getElem hi]
 rfl

theorem aNV {q : aY} (h : q.length = 7) : pv q < 72057594037927936 := by have := aJt q; rw [h] at this; exact this

theorem aKQ {p q : aY} (h : nV p = nV q) : p = q := by
 apply List.ext_getElem
 · have := congrArg List.length h; simpa [nV] using this
 intro i h1 h2
 have := congrArg (fun l => l.getD i 0) h
 simp [nV, List.getD_eq_getElem?_getD, h1, h2] at this
 exact UInt8.toNat_inj.1 (Int.natCast_inj.1 this)

theorem aHN {l : List Int} : ∀ b ∈ jV l, 0 ≤ b ∧ b < 256 := by
 intro b hb
 simp only [jV, List.mem_flatMap, rR, List.mem_map] at hb
 obtain ⟨w, _, i, _, rfl⟩ := hb
 exact aHM w i

theorem aJv {l : List Int} {n : Nat} : nV (wO l n) = (jV l).take n := by
 unfold nV wO
 rw [List.map_map, Int.toNat_natCast]
 conv => rhs; rw [← List.map_id ((jV l).take n)]
 apply List.map_congr_left
 intro b hb
 obtain ⟨h1, h2⟩ := aHN b (List.mem_of_mem_take hb)
 simp only [Function.comp, id]
 rw [UInt8.toNat_ofNat', Nat.mod_eq_of_lt (by omega)]
 omega

/-! ### A text's words -/
theorem aJw (s : aY) (k : Nat) : (pC s k).length ≤ 7 := by unfold pC; simp; omega
theorem vW (s : aY) : (keyW s).length = iK s := by simp [keyW]
theorem aLX (s : aY) : (keyW s).all wMay = true := by
 rw [List.all_eq_true]
 intro w hw
 simp only [keyW, List.mem_map] at hw
 obtain ⟨k, _, rfl⟩ := hw
 rw [aKN]
 have := aNV (aGD (aJw s k))
 simp [wMay]; omega

theorem aKR {s : aY} (h : s ≠ []) : keyW s = (pw (s.take 7) : Int) :: keyW (s.drop 7) := by
 have hp : 0 < s.length := List.length_pos_iff.2 h
 apply List.ext_getElem
 · simp [keyW, iK]; omega
 intro i h1 h2
 simp only [keyW, List.getElem_map, List.getElem_range]
 cases i with
 | zero => simp [pC]
 | succ i =>
   simp only [List.getElem_cons_succ, List.getElem_map, List.getElem_range, pC, List.drop_drop]
   rw [show 7 * (i + 1) = 7 + 7 * i by omega]

theorem aBJ : ∀ (n : Nat) (s : aY), s.length ≤ n → jV (keyW s) = nV s ++ List.replicate (7 * iK s - s.length) 0
 | n, [], _ => rfl
 | 0, b :: r, h => by simp at h
 | n + 1, b :: r, h => by
   rw [aKR (by simp)]
   generalize hs : b :: r = s at *
   have hp : 0 < s.length := by rw [← hs]; simp
   have e1 : ∀ (x : Int) (l : List Int), jV (x :: l) = rR x ++ jV l := fun x l => by simp [jV]
   have htl : (s.take 7).length ≤ 7 := by simp; omega
   rw [e1, aKN, aKP (aGD htl), aBJ n (s.drop 7) (by simp; omega)]
   unfold padB
   simp only [nV, List.map_append, List.append_assoc, List.map_replicate, List.length_take, List.length_drop]
   rcases Nat.lt_or_ge s.length 7 with h7 | h7
   · have h1 : s.take 7 = s := List.take_of_length_le (by omega)
     have h2 : s.drop 7 = [] := List.drop_eq_nil_of_le (by omega)
     rw [h1, h2]
     have h3 : iK s = 1 := by unfold iK; omega
     rw [h3]
     simp [iK, Nat.min_eq_right (Nat.le_of_lt h7)]
   · have h3 : iK (s.drop 7) = iK s - 1 := by unfold iK; simp; omega
     have h4 : 1 ≤ iK s := by unfold iK; omega
     rw [Nat.min_eq_left h7, h3]
     have h5 : 7 * (iK s - 1) - (s.length - 7) = 7 * iK s - s.length := by omega
     rw [h5]
     simp only [List.map_take, List.map_drop, Nat.sub_self, List.replicate_zero, List.nil_append]
     rw [← List.append_assoc, List.take_append_drop]

theorem aJx (s : aY) (h : s.length < 9223372036854775808) : nU (keyW s) s.length = true ∧ wO (keyW s) s.length = s := by
 have hf := aBJ s.length s (Nat.le_refl _)
 have ht : (jV (keyW s)).take s.length = nV s := by rw [hf, List.take_left' (aEY s)]
 refine ⟨?_, aKQ (by rw [aJv, ht])⟩
 unfold nU
 rw [aLX, vW, aGC _ (by omega), Int.toNat_natCast, hf, List.drop_left' (aEY s)]
 have : ¬ ((s.length : Int) < 0) := by omega
 simp only [this, decide_false, Bool.not_false, Bool.true_and, iK, decide_true, Bool.and_true]
 rw [List.all_eq_true]
 intro b hb
 rw [List.eq_of_mem_replicate hb]; rfl

end Lam
namespace Lam
open Go
structure Rc where
 kind : Int
 key : aY
 val : aY
 child : Int
 deriving DecidableEq
def Rc.V (x : Rc) : AV := .agg [.int .i64 x.kind, .str x.key, .str x.val, .int .i64 x.child]
attribute [go_sem] Rc.V
def Rc.ok (x : Rc) : Prop := (x.kind = 1 ∧ x.key ≠ [] ∧ x.key.length ≤ 21 ∧ x.val.length ≤ 21 ∧ x.child = 0) ∨ (x.kind = 2 ∧ x.key.length ≤ 21 ∧ x.val = [] ∧ 0 < x.child ∧ x.child < 256)
def keyB (s : aY) : Bool := decide (s ≠ []) && decide ((s.length : Int) ≤ 21)
def recB (x : Rc) : Bool := (decide (x.kind = 1) && (keyB x.key && decide ((x.val.length : Int) ≤ 21) && decide (x.child = 0))) || (decide (x.kind = 2) && ((decide (x.key = []) || keyB x.key) && decide (x.val = []) && decide (0 < x.child) && decide (x.child < 256)))
theorem xZ {x : Rc} : recB x = true ↔ x.ok := by
 unfold recB Rc.ok keyB
 simp only [Bool.or_eq_true, Bool.and_eq_true, decide_eq_true_eq]
 constructor
 · rintro (⟨h1, ⟨⟨h2, h3⟩, h4⟩, h5⟩ | ⟨h1, ⟨⟨h2, h3⟩, h4⟩, h5⟩)
   · exact .inl ⟨h1, h2, by omega, by omega, h5⟩
   · refine .inr ⟨h1, ?_, h3, h4, h5⟩
     rcases h2 with h | h
     · rw [h]; exact Nat.zero_le _
     · omega
 · rintro (⟨h1, h2, h3, h4, h5⟩ | ⟨h1, h2, h3, h4, h5⟩)
   · exact .inl ⟨h1, ⟨⟨h2, by omega⟩, by omega⟩, h5⟩
   · refine .inr ⟨h1, ⟨⟨?_, h3⟩, h4⟩, h5⟩
     by_cases e : x.key = []
     · exact .inl e
     · exact .inr ⟨e, by omega⟩
theorem Rc.ok.key {x : Rc} (h : x.ok) : x.key.length ≤ 21 := by rcases h with h | h; exact h.2.2.1; exact h.2.1
theorem Rc.ok.val {x : Rc} (h : x.ok) : x.val.length ≤ 21 := by
 rcases h with h | h
 · exact h.2.2.2.1
 · rw [h.2.2.1]; exact Nat.zero_le _
def kA (s : aY) : List Int := keyW s ++ List.replicate (3 - (keyW s).length) 0
theorem pE {s : aY} (h : s.length ≤ 21) : (kA s).length = 3 := by
 have h1 : (keyW s).length = iK s := vW s
 have h2 : iK s = (s.length + 6) / 7 := rfl
 simp [kA]; omega
def wP (x : Rc) : List Int := kA x.key ++ ((if x.kind = 2 then [x.child, 0, 0] else kA x.val) ++ List.replicate 7 0)
def nE (x : Rc) : Int := 32 * (x.key.length : Int) + (x.val.length : Int)
def jD (x : Rc) : List Int := x.kind :: nE x :: aBj (x.kind :: nE x :: wP x) :: wP x
theorem aLY {x : Rc} (h : x.ok) : (wP x).length = 13 := by
 have h1 := pE h.key
 have h2 := pE h.val
 unfold wP
 split <;> simp [h1, h2]
theorem aCn {x : Rc} (h : x.ok) : (jD x).length = 16 := by
 have := aLY h
 simp [jD, this]
theorem aEZ (s : aY) (h : s.length ≤ 21) : nU ((kA s).take ((s.length + 6) / 7)) s.length = true ∧ wO ((kA s).take ((s.length + 6) / 7)) s.length = s := by
 have h1 : (keyW s).length = (s.length + 6) / 7 := vW s
 have : (kA s).take ((s.length + 6) / 7) = keyW s := by
   unfold kA; exact List.take_left' h1
 rw [this]
 exact aJx s (by omega)
def txtB (w : List Int) (at_ : Nat) (n : Int) : Bool := decide (0 ≤ n) && decide (n ≤ 21) && nU ((w.drop at_).take ((n.toNat + 6) / 7)) n
def txtS (w : List Int) (at_ : Nat) (n : Int) : aY := if txtB w at_ n = true then wO ((w.drop at_).take ((n.toNat + 6) / 7)) n else []
theorem aGE {x : Rc} (h : x.ok) : txtB (jD x) 3 (x.key.length : Int) = true ∧ txtS (jD x) 3 (x.key.length : Int) = x.key := by
 have hk := h.key
 have h3 := pE hk
 have e : ((jD x).drop 3).take ((x.key.length + 6) / 7) = (kA x.key).take ((x.key.length + 6) / 7) := by
   show (kA x.key ++ _).take _ = _
   exact List.take_append_of_le_length (by rw [h3]; omega)
 have ht := aEZ x.key hk
 have hb : txtB (jD x) 3 (x.key.length : Int) = true := by
   unfold txtB
   rw [Int.toNat_natCast, e, ht.1, decide_eq_true (by omega), decide_eq_true (by omega)]; rfl
 refine ⟨hb, ?_⟩
 unfold txtS
 rw [if_pos hb, Int.toNat_natCast, e]; exact ht.2
theorem aGF {x : Rc} (h : x.ok) (h1 : x.kind = 1) : txtB (jD x) 6 (x.val.length : Int) = true ∧ txtS (jD x) 6 (x.val.length : Int) = x.val := by
 have hk := pE h.key
 have hv := h.val
 have h3 := pE hv
 have e : ((jD x).drop 6).take ((x.val.length + 6) / 7) = (kA x.val).take ((x.val.length + 6) / 7) := by
   have : (jD x).drop 6 = kA x.val ++ List.replicate 7 0 := by
     show (kA x.key ++ _).drop 3 = _
     rw [List.drop_left' hk, if_neg (by rw [h1]; decide)]
   rw [this]
   exact List.take_append_of_le_length (by rw [h3]; omega)
 have ht := aEZ x.val hv
 have hb : txtB (jD x) 6 (x.val.length : Int) = true := by
   unfold txtB
   rw [Int.toNat_natCast, e, ht.1, decide_eq_true (by omega), decide_eq_true (by omega)]; rfl
 refine ⟨hb, ?_⟩
 unfold txtS
 rw [if_pos hb, Int.toNat_natCast, e]; exact ht.2
theorem aJy {x : Rc} (h : x.ok) (h2 : x.kind = 2) : (jD x).getD 6 0 = x.child := by
 have hk := pE h.key
 show (kA x.key ++ _).getD 3 0 = _
 rw [aBt _ _ _ _ (by omega), hk, if_pos h2]; rfl
def decC (w : List Int) : Rc := ⟨w.getD 0 0, txtS w 3 (w.getD 1 0 / 32), if w.getD 0 0 = 1 then txtS w 6 (w.getD 1 0 % 32) else [], if w.getD 0 0 = 2 then w.getD 6 0 else 0⟩
theorem aAN {x : Rc} (h : x.ok) : nE x / 32 = x.key.length ∧ nE x % 32 = x.val.length ∧ 0 ≤ nE x ∧ nE x ≤ 693 := by
 have := h.key; have := h.val
 unfold nE; omega
theorem aFa {x : Rc} (h : x.ok) : decC (jD x) = x := by
 have e0 : (jD x).getD 0 0 = x.kind := rfl
 have e1 : (jD x).getD 1 0 = nE x := rfl
 have hl := aAN h
 unfold decC
 rw [e0, e1, hl.1, hl.2.1, (aGE h).2]
 have h' := h
 rcases h with ⟨h1, _, _, _, h5⟩ | ⟨h1, _, h3, _, _⟩
 · rw [if_pos h1, if_neg (by rw [h1]; decide), (aGF h' h1).2]
   cases x; simp only at *; simp only [h5]
 · rw [if_neg (by rw [h1]; decide), if_pos h1, aJy h' h1]
   cases x; simp only at *; simp only [h3]
def pQ (d : List Int → Rc) (w : List Int) : Option Rc := if (recB (d w) && decide (jD (d w) = w)) = true then some (d w) else none
theorem zG {d : List Int → Rc} {w : List Int} {n : Rc} (h : pQ d w = some n) : n.ok ∧ jD n = w := by
 unfold pQ at h
 split at h
 · rename_i hc
   rw [Bool.and_eq_true, decide_eq_true_eq] at hc
   cases h
   exact ⟨xZ.1 hc.1, hc.2⟩
 · cases h
theorem aGG {d : List Int → Rc} (hd : ∀ n, n.ok → d (jD n) = n) {n : Rc} (h : n.ok) : pQ d (jD n) = some n := by
 unfold pQ
 rw [hd n h, xZ.2 h, decide_eq_true rfl]; rfl
theorem aLZ {d d' : List Int → Rc} (hd : ∀ n, n.ok → d (jD n) = n) (hd' : ∀ n, n.ok → d' (jD n) = n) (w : List Int) : pQ d w = pQ d' w := by
 cases h : pQ d w with
 | some n =>
   obtain ⟨h1, rfl⟩ := zG h
   rw [aGG hd' h1]
 | none =>
   cases h' : pQ d' w with
   | none => rfl
   | some n =>
     obtain ⟨h1, rfl⟩ := zG h'
     rw [aGG hd h1] at h; cases h
def wQ (w : List Int) : Option Rc := pQ decC w
theorem aDA {w : List Int} {x : Rc} (h : wQ w = some x) : x.ok ∧ jD x = w := zG h
theorem aDB {w : List Int} (h : ∀ x : Rc, x.ok → jD x ≠ w) : wQ w = none := by
 cases e : wQ w with
 | none => rfl
 | some x => exact absurd (aDA e).2 (h x (aDA e).1)
def kE : Rc := ⟨0, [], [], 0⟩
end Lam
namespace Lam
open Go
def dF (w : List Int) (b : Int) : Option Nd := if (decide (b < 0) || decide (((w.length / 16 : Nat) : Int) ≤ b)) = true then none else aDx (kS w b.toNat)
def recO (w : List Int) (b : Int) : Option Rc := if (decide (b < 0) || decide (((w.length / 16 : Nat) : Int) ≤ b)) = true then none else wQ (kS w b.toNat)
theorem lS {w : List Int} {b : Int} {n : Nd} (h : dF w b = some n) : n.ok ∧ 0 ≤ b ∧ b < ((w.length / 16 : Nat) : Int) ∧ aDx (kS w b.toNat) = some n := by
 unfold dF at h
 split at h
 · cases h
 · rename_i hb
   simp only [Bool.or_eq_true, decide_eq_true_eq, not_or] at hb
   exact ⟨(aDy h).1, by omega, by omega, h⟩
def tO (w : List Int) : Nat → Int → List Int → Option (List Int)
 | 0, _, _ => none
 | m + 1, b, out => if b = 0 then some out else match dF w b with
   | none => none
   | some n => if n.level = 0 ∧ b ∉ out then tO w m n.next (out ++ [b]) else none
theorem aGH {N : Nat} : ∀ {l : List Int}, l.Nodup → (∀ x ∈ l, 0 ≤ x ∧ x < (N : Int)) → l.length ≤ N := by
 intro l hn hx
 have h1 : (l.map Int.toNat).Nodup := by
   unfold List.Nodup at hn ⊢
   rw [List.pairwise_map]
   exact hn.imp_of_mem fun {a b} ha hb hne => by have := hx a ha; have := hx b hb; omega
 have h2 : ∀ x ∈ l.map Int.toNat, x ∈ List.range N := by
   intro x hm
   obtain ⟨y, hy, rfl⟩ := List.mem_map.1 hm
   have := hx y hy
   rw [List.mem_range]; omega
 have := List.Nodup.length_le_of_subset h1 (fun x hx => h2 x hx)
 simpa using this
theorem aBK {w : List Int} : ∀ (m : Nat) (b : Int) (out l : List Int), tO w m b out = some l → out.Nodup → (∀ x ∈ out, 0 ≤ x ∧ x < ((w.length / 16 : Nat) : Int)) →
   l.Nodup ∧ (∀ x ∈ l, 0 ≤ x ∧ x < ((w.length / 16 : Nat) : Int)) ∧ ∃ r, l = out ++ r ∧ (b ≠ 0 → ∃ r', r = b :: r') ∧ ∀ x ∈ r, ∃ n, dF w x = some n ∧ n.level = 0
 | 0, b, out, l, h, _, _ => by cases h
 | m + 1, b, out, l, h, hn, hr => by
   simp only [tO] at h
   split at h
   · rename_i h0
     cases h
     exact ⟨hn, hr, [], by simp, fun h => absurd h0 h, by simp⟩
   · rename_i h0
     cases hnd : dF w b with
     | none => rw [hnd] at h; cases h
     | some n =>
       rw [hnd] at h
       simp only at h
       split at h
       rotate_left
       · cases h
       rename_i hc
       obtain ⟨_, q0, q1, _⟩ := lS hnd
       have hn' : (out ++ [b]).Nodup := by
         rw [List.nodup_append]
         refine ⟨hn, by simp, fun a ha b' hb' => ?_⟩
         simp only [List.mem_singleton] at hb'
         subst hb'
         rintro rfl
         exact hc.2 ha
       have hr' : ∀ x ∈ out ++ [b], 0 ≤ x ∧ x < ((w.length / 16 : Nat) : Int) := by
         intro x hx
         simp only [List.mem_append, List.mem_singleton] at hx
         rcases hx with hx | rfl
         · exact hr x hx
         · exact ⟨q0, q1⟩
       obtain ⟨g1, g2, r, g3, _, g4⟩ := aBK m _ _ _ h hn' hr'
       refine ⟨g1, g2, b :: r, by rw [g3]; simp, fun _ => ⟨r, rfl⟩, fun x hx => ?_⟩
       rcases List.mem_cons.1 hx with rfl | hx
       · exact ⟨n, hnd, hc.1⟩
       · exact g4 x hx
def lA (hb : Bool) (w : List Int) : Option (List Int) := if hb = true then tO w (w.length / 16 + 1) 1 [] else none
theorem lU {hb : Bool} {w l : List Int} (h : lA hb w = some l) : hb = true ∧ l.Nodup ∧ (∀ x ∈ l, 0 ≤ x ∧ x < ((w.length / 16 : Nat) : Int)) ∧ l.length ≤ w.length / 16 ∧ (∃ r, l = 1 :: r) ∧ ∀ x ∈ l, ∃ n, dF w x = some n ∧ n.level = 0 := by
 unfold lA at h
 split at h
 rotate_left
 · cases h
 rename_i hb
 obtain ⟨g1, g2, r, g3, g4, g5⟩ := aBK _ _ _ _ h List.nodup_nil (by simp)
 rw [List.nil_append] at g3
 subst g3
 exact ⟨hb, g1, g2, aGH g1 g2, g4 (by decide), g5⟩
def lowO (w : List Int) (n : Nd) : Option aY := if n.low = 0 then some [] else (recO w n.low).map (·.key)
def lN (w : List Int) (low : aY) : List Int → Nat → aY → Bool
 | [], _, _ => true
 | s :: r, k, last => match recO w s with
   | none => false
   | some x => decide (x.kind = 1) && !ltB x.key low && (decide (k = 0) || ltB last x.key) && lN w low r (k + 1) (if ltB last x.key then x.key else last)
def nF (w : List Int) (i : Nat) (last : aY) (b : Int) : Option aY :=
 match dF w b with
 | none => none
 | some n => match lowO w n with
   | none => none
   | some low => if ((decide (i = 0) && decide (n.low = 0)) || (decide (0 < i) && ltB last low)) && lN w low (plain n.slots) 0 low then some low else none
def lH (w : List Int) : List Int → Nat → aY → Bool
 | [], _, _ => true
 | b :: r, i, last => match nF w i last b with
   | none => false
   | some low => lH w r (i + 1) low
def iF (hb : Bool) (w : List Int) : Option (List Int) :=
 match lA hb w with
 | none => none
 | some l => if lH w l 0 [] = true then some l else none
end Lam
namespace Lam
open Go
theorem qV : ∀ a : aY, ltB a a = false
 | [] => rfl
 | a :: x => by simp [ltB, qV x]
theorem jG : ∀ {a b c : aY}, ltB a b = true → ltB b c = true → ltB a c = true
 | _, [], _, h, _ => by simp [ltB] at h
 | _, _ :: _, [], _, h => by simp [ltB] at h
 | [], _ :: _, _ :: _, _, _ => rfl
 | a :: x, b :: y, c :: z, h1, h2 => by
   simp only [ltB, Bool.or_eq_true, decide_eq_true_eq, Bool.and_eq_true, beq_iff_eq] at h1 h2 ⊢
   rcases h1 with h1 | ⟨rfl, h1⟩
   · rcases h2 with h2 | ⟨rfl, h2⟩
     · exact .inl (UInt8.lt_trans h1 h2)
     · exact .inl h1
   · rcases h2 with h2 | ⟨rfl, h2⟩
     · exact .inl h2
     · exact .inr ⟨rfl, jG h1 h2⟩
theorem yA : ∀ (a b : aY), ltB a b = true ∨ a = b ∨ ltB b a = true
 | [], [] => .inr (.inl rfl)
 | [], _ :: _ => .inl rfl
 | _ :: _, [] => .inr (.inr rfl)
 | a :: x, b :: y => by
   simp only [ltB, Bool.or_eq_true, decide_eq_true_eq, Bool.and_eq_true, beq_iff_eq, List.cons.injEq]
   by_cases hab : a < b
   · exact .inl (.inl hab)
   by_cases hba : b < a
   · exact .inr (.inr (.inl hba))
   have e : a = b := UInt8.le_antisymm (UInt8.not_lt.1 hba) (UInt8.not_lt.1 hab)
   subst e
   rcases yA x y with h | h | h
   · exact .inl (.inr ⟨rfl, h⟩)
   · exact .inr (.inl ⟨rfl, h⟩)
   · exact .inr (.inr (.inr ⟨rfl, h⟩))
def leB (a b : aY) : Prop := ltB b a = false
theorem rD {a b : aY} (h : ltB a b = true) : leB a b := by
 unfold leB
 cases e : ltB b a with
 | false => rfl
 | true => have := jG h e; rw [qV] at this; cases this
theorem zH (a : aY) : leB a a := qV a
theorem lV {a b c : aY} (h1 : leB a b) (h2 : leB b c) : leB a c := by
 unfold leB at *
 cases e : ltB c a with
 | false => rfl
 | true =>
   rcases yA a b with h | rfl | h
   · have := jG e h; rw [h2] at this; cases this
   · rw [h2] at e; cases e
   · rw [h1] at h; cases h
theorem xE {a b : aY} (h : leB a b) (hne : a ≠ b) : ltB a b = true := by
 rcases yA a b with e | e | e
 · exact e
 · exact absurd e hne
 · unfold leB at h; rw [h] at e; cases e
def d0 : RecT := ⟨0, [], [], 0⟩
def gS (l : List RecT) (i j : Nat) : List RecT := (l.set i (l.getD j d0)).set j (l.getD i d0)
theorem nN {l : List RecT} {i j : Nat} : (gS l i j).length = l.length := by simp [gS]
theorem tP {l : List RecT} {i j : Nat} (hi : i < l.length) (hj : j < l.length) (k : Nat) : (gS l i j).getD k d0 = if k = j then l.getD i d0 else if k = i then l.getD j d0 else l.getD k d0 := by
 unfold gS
 simp only [List.getD_eq_getElem?_getD, List.getElem?_set, List.length_set]
 by_cases h1 : j = k
 · subst h1; simp [hj]
 · rw [if_neg h1, if_neg (Ne.symm h1)]
   by_cases h2 : i = k
   · subst h2; simp [hi]
   · rw [if_neg h2, if_neg (Ne.symm h2)]
theorem aJz {l : List RecT} {i j : Nat} (hi : i < l.length) (hj : j < l.length) : (gS l i j).Perm l := by
 have h := @List.set_set_perm _ l i j hi hj
 have e1 : l.getD i d0 = l[i] := by rw [List.getD_eq_getElem?_getD, List.getElem?_eq_getElem hi]; rfl
 have e2 : l.getD j d0 = l[j] := by rw [List.getD_eq_getElem?_getD, List.getElem?_eq_getElem hj]; rfl
 unfold gS
 rw [e1, e2]; exact h
def SegP (a b : Nat) (l l' : List RecT) : Prop := l'.Perm l ∧ (∀ k, (k < a ∨ b ≤ k) → l'.getD k d0 = l.getD k d0) ∧ ∀ k, a ≤ k → k < b → ∃ k', a ≤ k' ∧ k' < b ∧ l'.getD k d0 = l.getD k' d0
theorem SegP.len {a b : Nat} {l l' : List RecT} (h : SegP a b l l') : l'.length = l.length := h.1.length_eq
theorem SegP.refl {a b : Nat} {l : List RecT} : SegP a b l l := ⟨.refl _, fun _ _ => rfl, fun k h1 h2 => ⟨k, h1, h2, rfl⟩⟩
theorem SegP.trans {a b : Nat} {l l' l'' : List RecT} (h : SegP a b l l') (h' : SegP a b l' l'') : SegP a b l l'' :=
 ⟨h'.1.trans h.1, fun k hk => (h'.2.1 k hk).trans (h.2.1 k hk), fun k h1 h2 => by
   obtain ⟨k', q1, q2, e⟩ := h'.2.2 k h1 h2
   obtain ⟨k'', r1, r2, e'⟩ := h.2.2 k' q1 q2
   exact ⟨k'', r1, r2, e.trans e'⟩⟩
theorem SegP.mono {a b a' b' : Nat} {l l' : List RecT} (h : SegP a b l l') (ha : a' ≤ a) (hb : b ≤ b') : SegP a' b' l l' :=
 ⟨h.1, fun k hk => h.2.1 k (by omega), fun k h1 h2 => by
   by_cases hk : a ≤ k ∧ k < b
   · obtain ⟨k', q1, q2, e⟩ := h.2.2 k hk.1 hk.2
     exact ⟨k', by omega, by omega, e⟩
   · exact ⟨k, h1, h2, h.2.1 k (by omega)⟩⟩
theorem SegP.swap {a b : Nat} {l : List RecT} {i j : Nat} (h1 : a ≤ i) (h2 : i < b) (h3 : a ≤ j) (h4 : j < b) (hb : b ≤ l.length) : SegP a b l (gS l i j) := by
 have hi : i < l.length := by omega
 have hj : j < l.length := by omega
 refine ⟨aJz hi hj, fun k hk => ?_, fun k q1 q2 => ?_⟩
 · rw [tP hi hj, if_neg (by omega), if_neg (by omega)]
 · rw [tP hi hj]
   split
   · exact ⟨i, h1, h2, rfl⟩
   · split
     · exact ⟨j, h3, h4, rfl⟩
     · exact ⟨k, q1, q2, rfl⟩
def kyL (l : List RecT) (i : Nat) : aY := (l.getD i d0).key
def SegS (a b : Nat) (l : List RecT) : Prop := ∀ p q, a ≤ p → p < q → q < b → leB (kyL l p) (kyL l q)
def InsS (a j i : Nat) (l : List RecT) : Prop := ∀ p q, a ≤ p → p < q → q < i → q ≠ j → leB (kyL l p) (kyL l q)
theorem InsS.begin {a i : Nat} {l : List RecT} (h : SegS a i l) : InsS a i (i + 1) l := fun p q h1 h2 h3 h4 => h p q h1 h2 (by omega)
theorem jO {l : List RecT} {i j : Nat} (hi : i < l.length) (hj : j < l.length) (k : Nat) : kyL (gS l i j) k = if k = j then kyL l i else if k = i then kyL l j else kyL l k := by
 unfold kyL
 rw [tP hi hj]
 split
 · rfl
 · split <;> rfl
theorem InsS.step {a j i : Nat} {l : List RecT} (h : InsS a j i l) (hj : a < j) (hji : j < i) (hi : i ≤ l.length) (hlt : ltB (kyL l j) (kyL l (j - 1)) = true) : InsS a (j - 1) i (gS l j (j - 1)) := by
 intro p q h1 h2 h3 h4
 have hjl : j < l.length := by omega
 have hjl' : j - 1 < l.length := by omega
 rw [jO hjl hjl', jO hjl hjl']
 rw [if_neg (show ¬ q = j - 1 from h4)]
 by_cases hq : q = j
 · subst hq
   rw [if_pos rfl]
   by_cases hp : p = q - 1
   · rw [if_pos hp]; exact rD hlt
   · rw [if_neg hp, if_neg (by omega)]
     exact h p (q - 1) h1 (by omega) (by omega) (by omega)
 · rw [if_neg hq]
   by_cases hp : p = j - 1
   · rw [if_pos hp]; exact h j q (by omega) (by omega) h3 hq
   · rw [if_neg hp]
     by_cases hp2 : p = j
     · rw [if_pos hp2]; exact h (j - 1) q (by omega) (by omega) h3 hq
     · rw [if_neg hp2]; exact h p q h1 h2 h3 hq
theorem InsS.done {a j i : Nat} {l : List RecT} (h : InsS a j i l) (hj : a ≤ j) (hji : j < i) (he : j = a ∨ leB (kyL l (j - 1)) (kyL l j)) : SegS a i l := by
 intro p q h1 h2 h3
 by_cases hq : q = j
 · subst hq
   rcases he with rfl | he
   · omega
   · by_cases hp : p = q - 1
     · subst hp; exact he
     · exact lV (h p (q - 1) h1 (by omega) (by omega) (by omega)) he
 · exact h p q h1 h2 h3 hq
theorem SegS.one {a b : Nat} {l : List RecT} (h : b ≤ a + 1) : SegS a b l := fun p q h1 h2 h3 => by omega
theorem SegP.same {a b : Nat} {l l' : List RecT} (h : SegP a b l l') {k : Nat} (hk : k < a ∨ b ≤ k) : kyL l' k = kyL l k := by unfold kyL; rw [h.2.1 k hk]
theorem SegP.from {a b : Nat} {l l' : List RecT} (h : SegP a b l l') {k : Nat} (h1 : a ≤ k) (h2 : k < b) : ∃ k', a ≤ k' ∧ k' < b ∧ kyL l' k = kyL l k' := by
 obtain ⟨k', q1, q2, e⟩ := h.2.2 k h1 h2
 exact ⟨k', q1, q2, by unfold kyL; rw [e]⟩
def qB (a m b : Nat) (l : List RecT) : Prop := (∀ k, a ≤ k → k < m → leB (kyL l k) (kyL l m)) ∧ ∀ k, m < k → k < b → leB (kyL l m) (kyL l k)
theorem qB.left {a m b : Nat} {l l' : List RecT} (h : qB a m b l) (s : SegP a m l l') : qB a m b l' := by
 refine ⟨fun k h1 h2 => ?_, fun k h1 h2 => ?_⟩
 · obtain ⟨k', q1, q2, e⟩ := s.from h1 h2
   rw [e, s.same (k := m) (by omega)]; exact h.1 k' q1 q2
 · rw [s.same (k := m) (by omega), s.same (k := k) (by omega)]; exact h.2 k h1 h2
theorem qB.right {a m b : Nat} {l l' : List RecT} (h : qB a m b l) (s : SegP (m + 1) b l l') : qB a m b l' := by
 refine ⟨fun k h1 h2 => ?_, fun k h1 h2 => ?_⟩
 · rw [s.same (k := m) (by omega), s.same (k := k) (by omega)]; exact h.1 k h1 h2
 · obtain ⟨k', q1, q2, e⟩ := s.from (k := k) (by omega) h2
   rw [e, s.same (k := m) (by omega)]; exact h.2 k' (by omega) q2
theorem SegS.keep {a b c d : Nat} {l l' : List RecT} (h : SegS a b l) (s : SegP c d l l') (hd : b ≤ c ∨ d ≤ a) : SegS a b l' := fun p q h1 h2 h3 => by
 rw [s.same (k := p) (by omega), s.same (k := q) (by omega)]; exact h p q h1 h2 h3
theorem qB.sorted {a m b : Nat} {l : List RecT} (h : qB a m b l) (h1 : SegS a m l) (h2 : SegS (m + 1) b l) : SegS a b l := by
 intro p q p1 p2 p3
 by_cases hq : q < m
 · exact h1 p q p1 p2 hq
 · by_cases hqm : q = m
   · subst hqm; exact h.1 p p1 p2
   · by_cases hp : p < m
     · exact lV (h.1 p p1 hp) (h.2 q (by omega) p3)
     · by_cases hpm : p = m
       · subst hpm; exact h.2 q (by omega) p3
       · exact h2 p q (by omega) p2 p3
end Lam
namespace Lam
open Go
def recZ (w : List Int) (s : Int) : Rc := (recO w s).getD ⟨0, [], [], 0⟩
def lowZ (w : List Int) (b : Int) : aY := ((dF w b).bind (lowO w)).getD []
def mV (w : List Int) (b : Int) : Nd := (dF w b).getD ⟨0, 0, 0, 0, []⟩
def ownB (w : List Int) (n : Nd) (x : Rc) : Bool := decide (n.next = 0) || ltB x.key (lowZ w n.next)
def ownL (w : List Int) (n : Nd) : List Rc := ((plain n.slots).map (recZ w)).takeWhile (ownB w n)
def lB (x : Rc) : iY := ⟨x.key, x.val⟩
def ownP (w : List Int) (b : Int) : List iY := (ownL w (mV w b)).map lB
def allP (w : List Int) (l : List Int) : List iY := l.flatMap (ownP w)
theorem aIq {α : Type} (p : α → Bool) (d : α) : ∀ (L : List α) (j : Nat), j ≤ L.length → (∀ i, i < j → p (L.getD i d) = true) → (j < L.length → p (L.getD j d) = false) → L.takeWhile p = L.take j
 | [], j, h, _, _ => by simp
 | a :: L, 0, _, _, h => by
   have := h (by simp)
   rw [List.takeWhile_cons, show p a = false from this]; rfl
 | a :: L, j + 1, h1, h2, h3 => by
   have h0 := h2 0 (by omega)
   rw [List.takeWhile_cons, show p a = true from h0, if_pos rfl, aIq p d L j (by simp at h1; omega) (fun i hi => h2 (i + 1) (by omega)) (fun hj => h3 (by simp; omega))]
   rfl
end Lam
namespace Lam
open Go
def aBk (w : List Int) (b : Int) : Option (Int × aY) := match dF w b with
 | none => none
 | some n => match lowO w n with
   | none => none
   | some l => some (n.level, l)
def yB (w : List Int) (key : aY) (out : Int) (s : Int) : Int := match recO w s with
 | none => out
 | some x => if x.kind = 2 ∧ ltB key x.key = false then x.child else out
def aAO (w : List Int) (key : aY) (n : Nd) : Int := n.slots.foldl (yB w key) 0
def aKS (w : List Int) (key : aY) (n : Nd) : Option Int := match aBk w (aAO w key n) with
 | none => none
 | some (lv, lo) => if aAO w key n = 0 ∨ lv ≠ n.level - 1 ∨ ltB key lo = true then none else some (aAO w key n)
def aBl (w : List Int) (b : Int) (key : aY) (level : Int) (n : Nd) : Option Int := if level < n.level then aKS w key n else some b
def lI (w : List Int) (b : Int) (key : aY) (level : Int) : Option Int := match dF w b with
 | none => none
 | some n => if n.level < level then none else
   if n.next = 0 then aBl w b key level n else match aBk w n.next with
     | none => none
     | some (lv, lo) => if n.next = b ∨ lv ≠ n.level then none else if ltB key lo = false then some n.next else aBl w b key level n
end Lam
namespace Lam
open Go Go.Proofs
def aKT : TyD := (.tup [])
def aKU : TyD := .func
def aIr : TyD := (.int .i64)
def aB : TyD := (.int .i64)
def mW : TyD := .bool
def lX : TyD := (.int .u8)
def bP : TyD := .str
def aBL : TyD := .iface
def aM : TyD := (.slice (.int .i64))
def cK : TyD := (.slice .pend)
def aN : TyD := (.strct [(.slice (.int .i64)), (.slice (.int .i64)), (.slice .pend)])
def cB : TyD := (.strct [(.int .i64), (.int .i64), (.int .i64), (.slice (.int .i64)), .bool])
def aAP : TyD := (.strct [.str, (.int .i64), (.int .i64), (.int .i64), (.strct [(.int .i64), (.int .i64), (.int .i64), (.slice (.int .i64)), .bool]), .str, .bool])
def rS : TyD := (.tup [(.strct [(.slice (.int .i64)), (.slice (.int .i64)), (.slice .pend)]), (.strct [.str, (.int .i64), (.int .i64), (.int .i64), (.strct [(.int .i64), (.int .i64), (.int .i64), (.slice (.int .i64)), .bool]), .str, .bool])])
def cX : TyD := (.strct [(.int .i64), (.int .i64), .bool])
def aAQ : TyD := .other
def kF : TyD := (.slice (.int .u8))
def bW : TyD := (.slice .pair)
def aI : TyD := (.strct [.str, .str, (.int .i64), (.int .i64), (.int .i64), (.int .i64), (.strct [(.int .i64), (.int .i64), (.int .i64), (.slice (.int .i64)), .bool]), .str, (.slice .pair)])
def cM : TyD := (.int .i64)
def pU : TyD := (.tup [(.strct [.str, .str, (.int .i64), (.int .i64), (.int .i64), (.int .i64), (.strct [(.int .i64), (.int .i64), (.int .i64), (.slice (.int .i64)), .bool]), .str, (.slice .pair)]), (.int .i64)])
def rE : TyD := (.tup [(.strct [(.slice (.int .i64)), (.slice (.int .i64)), (.slice .pend)]), (.strct [.str, .str, (.int .i64), (.int .i64), (.int .i64), (.int .i64), (.strct [(.int .i64), (.int .i64), (.int .i64), (.slice (.int .i64)), .bool]), .str, (.slice .pair)])])
def iT : TyD := (.strct [.str, .str])
def tQ : TyD := (.tup [(.slice (.int .i64)), (.int .i64)])
def pV : TyD := (.tup [(.slice .pair), (.int .i64)])
def qC : TyD := (.tup [(.strct [.str, (.int .i64), (.int .i64), (.int .i64), (.strct [(.int .i64), (.int .i64), (.int .i64), (.slice (.int .i64)), .bool]), .str, .bool]), (.int .i64)])
def sD : TyD := (.tup [(.strct [(.slice (.int .i64)), (.slice (.int .i64)), (.slice .pend)]), (.int .i64)])
def zW : TyD := (.tup [.str, .bool])
def yC : TyD := .func
def lY : TyD := (.map .ib)
def wR : TyD := .func
def tZ : TyD := (.arr 8 .fnk)
def zX : TyD := .ptr
def aBM : TyD := (.strct [(.strct [(.slice (.int .i64)), (.slice (.int .i64)), (.slice .pend)]), (.strct [.str, (.int .i64), (.int .i64), (.int .i64), (.strct [(.int .i64), (.int .i64), (.int .i64), (.slice (.int .i64)), .bool]), .str, .bool])])
def sE : TyD := (.tup [(.int .i64), (.int .i64), (.int .i64)])
def rT : TyD := (.tup [(.strct [(.int .i64), (.int .i64), (.int .i64), (.slice (.int .i64)), .bool]), (.int .i64)])
def bB : TyD := (.strct [(.int .i64), (.int .i64), (.int .i64), (.int .i64), (.slice (.int .i64))])
def rU : TyD := (.tup [(.strct [(.int .i64), (.int .i64), (.int .i64), (.int .i64), (.slice (.int .i64))]), (.int .i64)])
def tR : TyD := (.tup [.str, (.int .i64)])
def wS : TyD := (.tup [(.int .i64), (.int .i64)])
def pF : TyD := .func
def sF : TyD := .func
def uA : TyD := .func
def sG : TyD := .func
def dA : TyD := (.strct [(.int .i64), (.int .i64), (.int .i64), (.int .i64)])
def zY : TyD := .ptr
def eZ : TyD := (.strct [(.strct [(.int .i64), (.int .i64), (.int .i64), (.slice (.int .i64)), .bool]), (.int .i64)])
def fM : TyD := (.strct [(.int .i64), (.int .i64), (.int .i64)])
def rV : TyD := (.strct [])
def aK : TyD := (.strct [(.int .i64), .str, .str, (.int .i64)])
def sH : TyD := (.tup [(.strct [(.int .i64), .str, .str, (.int .i64)]), (.int .i64)])
def rW : TyD := (.int .u64)
def uB : TyD := (.tup [(.int .i64), .str, .bool])
def aU : TyD := (.slice .rcd)
def tS : TyD := .func
def kB : TyD := (.slice .mic)
def dL : TyD := (.arr 16 (.int .i64))
def lO : TyD := (.map .sb)
def oC : TyD := .func
def kG : TyD := (.int .u32)
def jT : TyD := (.arr 256 (.int .u32))
def yD : TyD := .ptr
def lL : TyD := (.int .u64)
def yE : TyD := .ptr
def jH : TyD := (.strct [(.strct [(.slice (.int .i64)), (.slice (.int .i64)), (.slice .pend)])])
def eY : TyD := (.map .ifn)
def nA : TyD := .func
def qD : TyD := .func
def uC : TyD := .func
def mG : TyD := (.int .i64)
def pW : TyD := (.tup [(.int .i64), (.int .i64)])
def aDC : TyD := (.tup [(.int .i64), .bool])
def rX : TyD := .func
def cZ : TyD := (.int .u64)
def aIs : TyD := .ptr
def mM : TyD := (.map .ii)
def sI : TyD := .ptr
def aFb : TyD := (.tup [(.int .i64), (.int .i64)])
def sJ : TyD := .func
def yF : TyD := .func
def qE : TyD := .func
attribute [go_sem] aKT aKU aIr aB mW lX bP aBL aM cK aN cB aAP rS cX aAQ kF bW aI cM pU rE iT tQ pV qC sD zW yC lY wR tZ zX aBM sE rT bB rU tR wS pF sF uA sG dA zY eZ fM rV aK sH rW uB aU tS kB dL lO oC kG jT yD lL yE jH eY nA qD uC mG pW aDC rX cZ aIs mM sI aFb sJ yF qE
def tab : TypeId → TyD
 | 0 => aKT
 | 1 => aKU
 | 2 => aIr
 | 3 => aB
 | 4 => mW
 | 5 => lX
 | 9 => bP
 | 20 => aBL
 | 22 => aM
 | 23 => cK
 | 25 => aN
 | 27 => cB
 | 29 => aAP
 | 32 => rS
 | 37 => cX
 | 39 => aAQ
 | 40 => kF
 | 41 => bW
 | 43 => aI
 | 44 => cM
 | 45 => pU
 | 47 => rE
 | 52 => iT
 | 56 => tQ
 | 60 => pV
 | 63 => qC
 | 65 => sD
 | 67 => zW
 | 76 => yC
 | 78 => lY
 | 79 => wR
 | 80 => tZ
 | 82 => zX
 | 84 => aBM
 | 86 => sE
 | 89 => rT
 | 96 => bB
 | 97 => rU
 | 99 => tR
 | 102 => wS
 | 105 => pF
 | 106 => sF
 | 108 => uA
 | 110 => sG
 | 114 => dA
 | 118 => zY
 | 120 => eZ
 | 126 => fM
 | 128 => rV
 | 133 => aK
 | 134 => sH
 | 136 => rW
 | 138 => uB
 | 144 => aU
 | 147 => tS
 | 150 => kB
 | 153 => dL
 | 159 => lO
 | 162 => oC
 | 163 => kG
 | 164 => jT
 | 167 => yD
 | 175 => lL
 | 177 => yE
 | 179 => jH
 | 180 => eY
 | 182 => nA
 | 183 => qD
 | 184 => uC
 | 187 => mG
 | 188 => pW
 | 192 => aDC
 | 198 => rX
 | 200 => cZ
 | 204 => aIs
 | 207 => mM
 | 211 => sI
 | 212 => aFb
 | 217 => sJ
 | 218 => yF
 | 221 => qE
 | _ => .other
theorem aKV : aIG Tryz.prog tab := by
 intro T
 unfold tab
 split <;> kernel_rfl
theorem aKW (T : TypeId) : (tab T).shallow := by
 unfold tab
 split <;> (unfold TyD.shallow; decide)
theorem mixed : Tryz.prog.follows .mixedOrders = true := by kernel_rfl
def ctx (F : List (FuncId × aE)) (S : List (FuncId × Con)) (lp : Nat → bX) : Ctx := ⟨tab, mS F, oK S, fun _ _ _ _ _ => False, lp, false, fun _ _ _ _ => False⟩
def ctxI (F : List (FuncId × aE)) (S : List (FuncId × Con)) (Is : List (FuncId × (Con → Con))) (lp : Nat → bX) : Ctx := ⟨tab, mS F, oK S, qL Is, lp, false, fun _ _ _ _ => False⟩
@[go_sem] theorem aVo (F : List (FuncId × aE)) (S : List (FuncId × Con)) (lp : Nat → bX) : (ctx F S lp).drawn = false := (rfl)
@[go_sem] theorem aSj (F : List (FuncId × aE)) (S : List (FuncId × Con)) (Is : List (FuncId × (Con → Con))) (lp : Nat → bX) : (ctxI F S Is lp).drawn = false := (rfl)
@[go_sem] theorem aVp (F : List (FuncId × aE)) (S : List (FuncId × Con)) (Is : List (FuncId × (Con → Con))) (lp : Nat → bX) : (ctxI F S Is lp).envF = mS F := (rfl)
@[go_sem] theorem aVq (F : List (FuncId × aE)) (S : List (FuncId × Con)) (Is : List (FuncId × (Con → Con))) (lp : Nat → bX) : (ctxI F S Is lp).envS = oK S := (rfl)
@[go_sem] theorem aSk (F : List (FuncId × aE)) (S : List (FuncId × Con)) (Is : List (FuncId × (Con → Con))) (lp : Nat → bX) : (ctxI F S Is lp).iterS = qL Is := (rfl)
@[go_sem] theorem aMa (F : List (FuncId × aE)) (S : List (FuncId × Con)) (lp : Nat → bX) : (ctx F S lp).envF = mS F := (rfl)
@[go_sem] theorem aYc (F : List (FuncId × aE)) (S : List (FuncId × Con)) (lp : Nat → bX) : (ctx F S lp).envS = oK S := (rfl)
theorem bR {F : List (FuncId × aE)} {S : List (FuncId × Con)} (hF : ∀ p ∈ F, bI Tryz.prog p.1 p.2) (hS : ∀ p ∈ S, dH Tryz.prog p.1 p.2) (lp : Nat → bX) : Ok Tryz.prog (ctx F S lp) :=
 ⟨⟨⟨aKV, aKW, aCh hF⟩, aCi hS, rfl, mixed, aMW⟩, fun _ _ _ _ h => h⟩
theorem aBm {F : List (FuncId × aE)} {S : List (FuncId × Con)} {Is : List (FuncId × (Con → Con))} (hF : ∀ p ∈ F, bI Tryz.prog p.1 p.2) (hS : ∀ p ∈ S, dH Tryz.prog p.1 p.2) (hI : ∀ p ∈ Is, qK Tryz.prog p.1 p.2) (lp : Nat → bX) : Ok Tryz.prog (ctxI F S Is lp) :=
 ⟨⟨⟨aKV, aKW, aCh hF⟩, aCi hS, rfl, mixed, aEO hI⟩, fun _ _ _ _ h => h⟩
end Lam
namespace Lam
open Go Go.Proofs
def fN.loops : Nat → bX
 | _ => ⟨[], [], [], [], [], []⟩
def fN.H (c : Ctx) (t0 : AV) (h : List AObj) (K : AOut → List AObj → Prop) : Prop :=
 cP cM h fun t2 h =>
 defX t2 fun dp =>
 aQ false c (.fn (.func 45) [] []) [t0] h (fun t4 h =>
 runH (aO cM h t2 (.int .i64 0)) h fun _ h =>
 cT (fitD cM (aD h t2)) fun r0 => K (.ret r0) h)
 (fun v h => yZ 128 110 v dp h fun h => cT (fitD cM (aD h t2)) fun r0 => K (.ret r0) h)
def dZ.loops : Nat → bX
 | _ => ⟨[], [], [], [], [], []⟩
def dZ.H (c : Ctx) (t0 : AV) (h : List AObj) (K : AOut → List AObj → Prop) : Prop :=
 cP cM h fun t3 h =>
 defX t3 fun dp =>
 aQ false c (.fn (.func 50) [] []) [t0] h (fun t5 h =>
 runH (aO cM h t3 (.int .i64 0)) h fun _ h =>
 cT (fitD cM (aD h t3)) fun r1 => K (.ret (.tup [t5, r1])) h)
 (fun v h => yZ 128 110 v dp h fun h => cT (fitD cM (aD h t3)) fun r1 => K (.ret (.tup [(.sl true (.ints .i64 [])), r1])) h)
def gZ.loops : Nat → bX
 | 1 => ⟨[], [], [], [(3, none), (2, some [11, 13])], [], []⟩
 | _ => ⟨[], [], [], [], [], []⟩
def gZ.H (c : Ctx) (t0 : AV) (h : List AObj) (K : AOut → List AObj → Prop) : Prop :=
 runD (binD aB .lss t0 (.int .i64 2)) h fun t10 h =>
 aJ (fun (J1 : AV → AV → List AObj → Prop) =>
 aT t10 false
 (runD (binD aB .gtr t0 (.int .i64 256)) h fun t13 h =>
 J1 (.bool false) t13 h)
 (J1 (.bool true) .und h))
 (fun t11 t13 h => runD (bK t11 (.bool true) t13) h fun t14 h =>
 aW t14
 (K (.ret (.tup [(.sl true (.ints .i64 [])), (.int .i64 1)])) h)
 (aQ false c (.fn (.func 56) [] []) [t0, (.int .i64 1)] h (fun t17 h =>
 runD (aV t17 0) h fun t18 h =>
 runD (aV t17 1) h fun t19 h =>
 runD (gT bB []) h fun t21 h =>
 aQ false c (.fn (.func 57) [] []) [t21] h (fun t22 h =>
 runD (aV t22 0) h fun t23 h =>
 runD (aV t22 1) h fun t24 h =>
 runD (binD aB .mul (.int .i64 16) t0) h fun t26 h =>
 runD (kC aM t26 t26 h.length) h fun t27 h =>
 runM (mD aM h t27 t18) h fun t30 h =>
 runD (dX aM h t27 (some (.int .i64 16)) none none) h fun t32 h =>
 runM (mD aM h t32 t23) h fun t34 h =>
 K (.ret (.tup [t27, (.int .i64 0)])) h)
 (fun v h => K (.pan v) h))
 (fun v h => K (.pan v) h)))
def dS.loops : Nat → bX
 | 4 => ⟨[4, 17], [false, false], [0, 3, 15, 16], [], [], []⟩
 | 8 => ⟨[], [], [], [(3, none), (3, some [30, 33]), (2, none), (7, some [35, 42])], [], []⟩
 | 11 => ⟨[4, 50], [false, false], [0, 3, 8, 15, 16, 17, 48, 49], [], [], []⟩
 | 14 => ⟨[], [], [], [(3, none), (3, some [63, 66]), (2, none), (4, some [68, 72]), (2, none), (8, some [74, 82])], [], []⟩
 | _ => ⟨[], [], [], [], [], []⟩
def dS.L2 (c : Ctx) (J6 : AV → AV → AV → AV → AV → AV → List AObj → Prop) (K : AOut → List AObj → Prop) (lv : List AV) (h0 : List AObj) (n0 : Nat) (c0 : AV) (c3 : AV) (c8 : AV) (c15 : AV) (c16 : AV) (c17 : AV) (c48 : AV) (c49 : AV) : Prop :=
 ∃ I : Nat → List AV → List AObj → Prop, (∃ n, I n lv h0) ∧ ∀ n h, ∀ t4, ∀ t50, I n [t4, t50] h →
 runD (binD aB .lss t50 c49) h fun t51 h =>
 aW t51
 (runD (aH aM h c48 t50) h fun t53 h =>
 runD (fitD aB (aD h t53)) h fun t54 h =>
 aQ false c (.fn (.func 79) [] []) [c0, t54] h (fun t58 h =>
 runD (aV t58 0) h fun t59 h =>
 runD (aV t58 1) h fun t60 h =>
 cP aK h fun t11 h =>
 runH (aO aK h t11 t59) h fun _ h =>
 runD (binD cM .eql t60 (.int .i64 0)) h fun t62 h =>
 aJ (fun (J7 : AV → AV → List AObj → Prop) =>
 aT t62 true
 (runD (aC aK t11 0) h fun t64 h =>
 runD (fitD aB (aD h t64)) h fun t65 h =>
 runD (binD aB .eql t65 (.int .i64 1)) h fun t66 h =>
 J7 (.bool true) t66 h)
 (J7 (.bool false) .und h))
 (fun t63 t66 h => runD (bK t63 t66 (.bool false)) h fun t67 h =>
 aJ (fun (J8 : AV → AV → List AObj → Prop) =>
 aT t67 true
 (runD (aC aK t11 1) h fun t69 h =>
 runD (fitD bP (aD h t69)) h fun t70 h =>
 runD (binD bP .geq t70 c8) h fun t72 h =>
 J8 (.bool true) t72 h)
 (J8 (.bool false) .und h))
 (fun t68 t72 h => runD (bK t68 t72 (.bool false)) h fun t73 h =>
 aJ (fun (J9 : AV → AV → List AObj → Prop) =>
 aT t73 true
 (runD (binD aB .eql t50 (.int .i64 0)) h fun t76 h =>
 aJ (fun (J10 : AV → AV → List AObj → Prop) =>
 aT t76 false
 (runD (aC aK t11 1) h fun t78 h =>
 runD (fitD bP (aD h t78)) h fun t79 h =>
 runD (binD bP .gtr t79 t4) h fun t81 h =>
 J10 (.bool false) t81 h)
 (J10 (.bool true) .und h))
 (fun t77 t81 h => runD (bK t77 (.bool true) t81) h fun t82 h =>
 J9 (.bool true) t82 h))
 (J9 (.bool false) .und h))
 (fun t74 t82 h => runD (bK t74 t82 (.bool false)) h fun t83 h =>
 aQ false c (.fn (.func 77) [] []) [t83] h (fun t84 h =>
 runD (aC aK t11 1) h fun t86 h =>
 runD (fitD bP (aD h t86)) h fun t87 h =>
 runD (maxD t4 t87) h fun t88 h =>
 runD (binD aB .add t50 (.int .i64 1)) h fun t89 h =>
 (∃ m, m < n ∧ I m (AV.norms n0 h [t88, t89]) (cJ n0 h)) ∧ AV.norms n0 h [c0, c3, c8, c15, c16, c17, c48, c49] = [c0, c3, c8, c15, c16, c17, c48, c49])
 (fun v h => K (.pan v) h)))))
 (fun v h => K (.pan v) h))
 (J6 c0 c3 c8 c15 c16 c17 h)
def dS.L1 (c : Ctx) (J1 : AV → List AObj → Prop) (K : AOut → List AObj → Prop) (lv : List AV) (h0 : List AObj) (n0 : Nat) (c0 : AV) (c3 : AV) (c15 : AV) (c16 : AV) : Prop :=
 ∃ I : Nat → List AV → List AObj → Prop, (∃ n, I n lv h0) ∧ ∀ n h, ∀ t4, ∀ t17, I n [t4, t17] h →
 runD (binD aB .lss t17 c16) h fun t18 h =>
 aW t18
 (aJ (fun (J2 : AV → AV → AV → AV → AV → AV → List AObj → Prop) =>
 runD (aH aM h c15 t17) h fun t20 h =>
 runD (fitD aB (aD h t20)) h fun t21 h =>
 aQ false c (.fn (.func 75) [] []) [c0, t21] h (fun t24 h =>
 cP bB h fun t7 h =>
 runH (aO bB h t7 t24) h fun _ h =>
 runD (fitD bB (aD h t7)) h fun t26 h =>
 aQ false c (.fn (.func 76) [] []) [c0, t26] h (fun t27 h =>
 runD (binD aB .eql t17 (.int .i64 0)) h fun t29 h =>
 aJ (fun (J3 : AV → AV → List AObj → Prop) =>
 aT t29 true
 (runD (aC bB t7 3) h fun t31 h =>
 runD (fitD aB (aD h t31)) h fun t32 h =>
 runD (binD aB .eql t32 (.int .i64 0)) h fun t33 h =>
 J3 (.bool true) t33 h)
 (J3 (.bool false) .und h))
 (fun t30 t33 h => runD (bK t30 t33 (.bool false)) h fun t34 h =>
 aJ (fun (J4 : AV → AV → List AObj → Prop) =>
 aT t34 false
 (runD (binD aB .gtr t17 (.int .i64 0)) h fun t37 h =>
 aJ (fun (J5 : AV → AV → List AObj → Prop) =>
 aT t37 true
 (runD (binD bP .gtr t27 t4) h fun t41 h =>
 J5 (.bool true) t41 h)
 (J5 (.bool false) .und h))
 (fun t38 t41 h => runD (bK t38 t41 (.bool false)) h fun t42 h =>
 J4 (.bool false) t42 h))
 (J4 (.bool true) .und h))
 (fun t35 t42 h => runD (bK t35 (.bool true) t42) h fun t43 h =>
 aQ false c (.fn (.func 77) [] []) [t43] h (fun t44 h =>
 runD (aC bB t7 4) h fun t46 h =>
 runD (fitD aM (aD h t46)) h fun t47 h =>
 aQ false c (.fn (.func 78) [] []) [t47] h (fun t48 h =>
 runD (lenD aM h t48) h fun t49 h =>
 aJ (fun (J6 : AV → AV → AV → AV → AV → AV → List AObj → Prop) =>
 dC [false, false] [t27, (.int .i64 0)] h fun lv h => dS.L2 c J6 K (AV.norms h.length h lv) (cJ h.length h) h.length (AV.norm h.length h c0) (AV.norm h.length h c3) (AV.norm h.length h t27) (AV.norm h.length h c15) (AV.norm h.length h c16) (AV.norm h.length h t17) (AV.norm h.length h t48) (AV.norm h.length h t49))
 (fun t0 t3 t8 t15 t16 t17 h => J2 t0 t3 t8 t15 t16 t17 h))
 (fun v h => K (.pan v) h))
 (fun v h => K (.pan v) h))))
 (fun v h => K (.pan v) h))
 (fun v h => K (.pan v) h))
 (fun t0 t3 t4 t15 t16 t17 h => runD (binD aB .add t17 (.int .i64 1)) h fun t91 h =>
 (∃ m, m < n ∧ I m (AV.norms n0 h [t4, t91]) (cJ n0 h)) ∧ AV.norms n0 h [t0, t3, t15, t16] = [c0, c3, c15, c16]))
 (J1 c3 h)
def dS.H (c : Ctx) (t0 : AV) (h : List AObj) (K : AOut → List AObj → Prop) : Prop :=
 aQ false c (.fn (.func 50) [] []) [t0] h (fun t14 h =>
 runD (lenD aM h t14) h fun t16 h =>
 aJ (fun (J1 : AV → List AObj → Prop) =>
 dC [false, false] [(.str []), (.int .i64 0)] h fun lv h => dS.L1 c J1 K (AV.norms h.length h lv) (cJ h.length h) h.length (AV.norm h.length h t0) (AV.norm h.length h t14) (AV.norm h.length h t14) (AV.norm h.length h t16))
 (fun t3 h => K (.ret t3) h))
 (fun v h => K (.pan v) h)
def dB.loops : Nat → bX
 | _ => ⟨[], [], [], [], [], []⟩
def dB.H (c : Ctx) (t0 : AV) (t1 : AV) (h : List AObj) (K : AOut → List AObj → Prop) : Prop :=
 cP cM h fun t5 h =>
 defX t5 fun dp =>
 aQ false c (.fn (.func 75) [] []) [t0, t1] h (fun t9 h =>
 aQ false c (.fn (.func 76) [] []) [t0, t9] h (fun t10 h =>
 runH (aO cM h t5 (.int .i64 0)) h fun _ h =>
 cT (fitD cM (aD h t5)) fun r1 => K (.ret (.tup [t10, r1])) h)
 (fun v h => yZ 128 110 v dp h fun h => cT (fitD cM (aD h t5)) fun r1 => K (.ret (.tup [(.str []), r1])) h))
 (fun v h => yZ 128 110 v dp h fun h => cT (fitD cM (aD h t5)) fun r1 => K (.ret (.tup [(.str []), r1])) h)
def dD.loops : Nat → bX
 | 4 => ⟨[2, 6], [true, false], [0], [], [], []⟩
 | 6 => ⟨[], [], [], [(4, none), (4, some [25, 29])], [], []⟩
 | _ => ⟨[], [], [], [], [], []⟩
def dD.L1 (c : Ctx) (J1 : AV → List AObj → Prop) (K : AOut → List AObj → Prop) (lv : List AV) (h0 : List AObj) (n0 : Nat) (c0 : AV) : Prop :=
 ∃ I : Nat → List AV → List AObj → Prop, (∃ n, I n lv h0) ∧ ∀ n h, ∀ t2, ∀ t6, I n [t2, t6] h →
 runD (binD aB .neq t6 (.int .i64 0)) h fun t18 h =>
 aW t18
 (aQ false c (.fn (.func 75) [] []) [c0, t6] h (fun t21 h =>
 cP bB h fun t7 h =>
 runH (aO bB h t7 t21) h fun _ h =>
 runD (aC bB t7 0) h fun t22 h =>
 runD (fitD aB (aD h t22)) h fun t23 h =>
 runD (binD aB .eql t23 (.int .i64 0)) h fun t24 h =>
 aJ (fun (J2 : AV → AV → List AObj → Prop) =>
 aT t24 true
 (aQ false c (.fn (.func 83) [] []) [t2, t6] h (fun t28 h =>
 runD (unD .not t28) h fun t29 h =>
 J2 (.bool true) t29 h)
 (fun v h => K (.pan v) h))
 (J2 (.bool false) .und h))
 (fun t25 t29 h => runD (bK t25 t29 (.bool false)) h fun t30 h =>
 aQ false c (.fn (.func 77) [] []) [t30] h (fun t31 h =>
 runD (eN aM 1 [(0, t6)] h.length) h fun t34 h =>
 jC (fI aM h t2 t34 h.length) (fW aM h t2 t34) h fun t35 h =>
 runD (aC bB t7 2) h fun t36 h =>
 runD (fitD aB (aD h t36)) h fun t37 h =>
 sepB t2 [t36] = true ∧ (∃ m, m < n ∧ I m (AV.norms n0 h [t35, t37]) (cJ n0 h)) ∧ AV.norms n0 h [c0] = [c0])
 (fun v h => K (.pan v) h)))
 (fun v h => K (.pan v) h))
 (J1 t2 h)
def dD.H (c : Ctx) (t0 : AV) (h : List AObj) (K : AOut → List AObj → Prop) : Prop :=
 aQ false c (.fn (.func 38) [] []) [t0] h (fun t10 h =>
 runD (aV t10 0) h fun t11 h =>
 runD (aV t10 1) h fun t12 h =>
 runD (aV t10 2) h fun t13 h =>
 runD (binD cM .eql t13 (.int .i64 0)) h fun t15 h =>
 aQ false c (.fn (.func 77) [] []) [t15] h (fun t16 h =>
 aJ (fun (J1 : AV → List AObj → Prop) =>
 dC [true, false] [(.sl true (.ints .i64 [])), (.int .i64 1)] h fun lv h => dD.L1 c J1 K (AV.norms h.length h lv) (cJ h.length h) h.length (AV.norm h.length h t0))
 (fun t2 h => K (.ret t2) h))
 (fun v h => K (.pan v) h))
 (fun v h => K (.pan v) h)
def cQ.loops : Nat → bX
 | _ => ⟨[], [], [], [], [], []⟩
def cQ.H (c : Ctx) (t0 : AV) (t1 : AV) (h : List AObj) (K : AOut → List AObj → Prop) : Prop :=
 cP bB h fun t4 h =>
 aQ false c (.fn (.func 46) [] []) [t0, t1] h (fun t10 h =>
 runD (aV t10 0) h fun t11 h =>
 runD (aV t10 1) h fun t12 h =>
 cP bB h fun t5 h =>
 runH (aO bB h t5 t11) h fun _ h =>
 runD (binD cM .eql t12 (.int .i64 0)) h fun t14 h =>
 aQ false c (.fn (.func 77) [] []) [t14] h (fun t15 h =>
 runD (fitD bB (aD h t5)) h fun t16 h =>
 runH (aO bB h t4 t16) h fun _ h =>
 cT (fitD bB (aD h t4)) fun r0 => K (.ret r0) h)
 (fun v h => K (.pan v) h))
 (fun v h => K (.pan v) h)
def dE.loops : Nat → bX
 | _ => ⟨[], [], [], [], [], []⟩
def dE.H (c : Ctx) (t0 : AV) (t1 : AV) (h : List AObj) (K : AOut → List AObj → Prop) : Prop :=
 boxW bB t1 h fun t3 h =>
 runD (aC bB t3 3) h fun t5 h =>
 runD (fitD aB (aD h t5)) h fun t6 h =>
 runD (binD aB .eql t6 (.int .i64 0)) h fun t7 h =>
 aW t7
 (K (.ret (.str [])) h)
 (runD (aC bB t3 3) h fun t9 h =>
 runD (fitD aB (aD h t9)) h fun t10 h =>
 aQ false c (.fn (.func 97) [] []) [t0, t10] h (fun t11 h =>
 K (.ret t11) h)
 (fun v h => K (.pan v) h))
def cI.loops : Nat → bX
 | _ => ⟨[], [], [], [], [], []⟩
def cI.H (c : Ctx) (t0 : AV) (h : List AObj) (K : AOut → List AObj → Prop) : Prop :=
 runD (unD .not t0) h fun t3 h =>
 aJ (fun (J1 : List AObj → Prop) =>
 aW t3
 (runD (gT rV []) h fun t4 h =>
 K (.pan (.iface 128 t4)) h)
 (J1 h))
 (fun h => K (.ret (.tup [])) h)
def eF.loops : Nat → bX
 | _ => ⟨[], [], [], [], [], []⟩
def eF.H (c : Ctx) (t0 : AV) (t1 : AV) (h : List AObj) (K : AOut → List AObj → Prop) : Prop :=
 aQ false c (.fn (.func 79) [] []) [t0, t1] h (fun t10 h =>
 runD (aV t10 0) h fun t11 h =>
 runD (aV t10 1) h fun t12 h =>
 cP aK h fun t5 h =>
 runH (aO aK h t5 t11) h fun _ h =>
 runD (binD cM .eql t12 (.int .i64 0)) h fun t14 h =>
 aQ false c (.fn (.func 77) [] []) [t14] h (fun t15 h =>
 runD (aC aK t5 1) h fun t16 h =>
 runD (fitD bP (aD h t16)) h fun t17 h =>
 K (.ret t17) h)
 (fun v h => K (.pan v) h))
 (fun v h => K (.pan v) h)
theorem fN.eq (F : List (FuncId × aE)) (S : List (FuncId × Con)) (t0 : AV) (h : List AObj) (K : AOut → List AObj → Prop) : aBh (ctx F S fN.loops) Tryz.f22 44 128 110 [t0] h K = fN.H (ctx F S fN.loops) t0 h K := by kernel_rfl
theorem dZ.eq (F : List (FuncId × aE)) (S : List (FuncId × Con)) (t0 : AV) (h : List AObj) (K : AOut → List AObj → Prop) : aBh (ctx F S dZ.loops) Tryz.f24 44 128 110 [t0] h K = dZ.H (ctx F S dZ.loops) t0 h K := by kernel_rfl
theorem gZ.eq (F : List (FuncId × aE)) (S : List (FuncId × Con)) (t0 : AV) (h : List AObj) (K : AOut → List AObj → Prop) : funW (ctx F S gZ.loops) Tryz.f32 [t0] h K = gZ.H (ctx F S gZ.loops) t0 h K := by kernel_rfl
theorem dS.eq (F : List (FuncId × aE)) (S : List (FuncId × Con)) (t0 : AV) (h : List AObj) (K : AOut → List AObj → Prop) : funW (ctx F S dS.loops) Tryz.f45 [t0] h K = dS.H (ctx F S dS.loops) t0 h K := by kernel_rfl
theorem dB.eq (F : List (FuncId × aE)) (S : List (FuncId × Con)) (t0 t1 : AV) (h : List AObj) (K : AOut → List AObj → Prop) : aBh (ctx F S dB.loops) Tryz.f47 44 128 110 [t0, t1] h K = dB.H (ctx F S dB.loops) t0 t1 h K := by kernel_rfl
theorem dD.eq (F : List (FuncId × aE)) (S : List (FuncId × Con)) (t0 : AV) (h : List AObj) (K : AOut → List AObj → Prop) : funW (ctx F S dD.loops) Tryz.f50 [t0] h K = dD.H (ctx F S dD.loops) t0 h K := by kernel_rfl
theorem cQ.eq (F : List (FuncId × aE)) (S : List (FuncId × Con)) (t0 t1 : AV) (h : List AObj) (K : AOut → List AObj → Prop) : funW (ctx F S cQ.loops) Tryz.f75 [t0, t1] h K = cQ.H (ctx F S cQ.loops) t0 t1 h K := by kernel_rfl
theorem dE.eq (F : List (FuncId × aE)) (S : List (FuncId × Con)) (t0 t1 : AV) (h : List AObj) (K : AOut → List AObj → Prop) : funW (ctx F S dE.loops) Tryz.f76 [t0, t1] h K = dE.H (ctx F S dE.loops) t0 t1 h K := by kernel_rfl
theorem cI.eq (F : List (FuncId × aE)) (S : List (FuncId × Con)) (t0 : AV) (h : List AObj) (K : AOut → List AObj → Prop) : funW (ctx F S cI.loops) Tryz.f77 [t0] h K = cI.H (ctx F S cI.loops) t0 h K := by kernel_rfl
theorem eF.eq (F : List (FuncId × aE)) (S : List (FuncId × Con)) (t0 t1 : AV) (h : List AObj) (K : AOut → List AObj → Prop) : funW (ctx F S eF.loops) Tryz.f97 [t0, t1] h K = eF.H (ctx F S eF.loops) t0 t1 h K := by kernel_rfl
theorem fN.at : Tryz.prog.funcs[22]? = some Tryz.f22 := by kernel_rfl
theorem fN.nm : (Tryz.f22.name == "runtime.NumGoroutine") = false := by kernel_rfl
theorem fN.bd : Tryz.f22.body.isNone = false := by kernel_rfl
theorem dZ.at : Tryz.prog.funcs[24]? = some Tryz.f24 := by kernel_rfl
theorem dZ.nm : (Tryz.f24.name == "runtime.NumGoroutine") = false := by kernel_rfl
theorem dZ.bd : Tryz.f24.body.isNone = false := by kernel_rfl
theorem gZ.at : Tryz.prog.funcs[32]? = some Tryz.f32 := by kernel_rfl
theorem gZ.nm : (Tryz.f32.name == "runtime.NumGoroutine") = false := by kernel_rfl
theorem gZ.bd : Tryz.f32.body.isNone = false := by kernel_rfl
theorem dS.at : Tryz.prog.funcs[45]? = some Tryz.f45 := by kernel_rfl
theorem dS.nm : (Tryz.f45.name == "runtime.NumGoroutine") = false := by kernel_rfl
theorem dS.bd : Tryz.f45.body.isNone = false := by kernel_rfl
theorem dB.at : Tryz.prog.funcs[47]? = some Tryz.f47 := by kernel_rfl
theorem dB.nm : (Tryz.f47.name == "runtime.NumGoroutine") = false := by kernel_rfl
theorem dB.bd : Tryz.f47.body.isNone = false := by kernel_rfl
theorem dD.at : Tryz.prog.funcs[50]? = some Tryz.f50 := by kernel_rfl
theorem dD.nm : (Tryz.f50.name == "runtime.NumGoroutine") = false := by kernel_rfl
theorem dD.bd : Tryz.f50.body.isNone = false := by kernel_rfl
theorem cQ.at : Tryz.prog.funcs[75]? = some Tryz.f75 := by kernel_rfl
theorem cQ.nm : (Tryz.f75.name == "runtime.NumGoroutine") = false := by kernel_rfl
theorem cQ.bd : Tryz.f75.body.isNone = false := by kernel_rfl
theorem dE.at : Tryz.prog.funcs[76]? = some Tryz.f76 := by kernel_rfl
theorem dE.nm : (Tryz.f76.name == "runtime.NumGoroutine") = false := by kernel_rfl
theorem dE.bd : Tryz.f76.body.isNone = false := by kernel_rfl
theorem cI.at : Tryz.prog.funcs[77]? = some Tryz.f77 := by kernel_rfl
theorem cI.nm : (Tryz.f77.name == "runtime.NumGoroutine") = false := by kernel_rfl
theorem cI.bd : Tryz.f77.body.isNone = false := by kernel_rfl
theorem eF.at : Tryz.prog.funcs[97]? = some Tryz.f97 := by kernel_rfl
theorem eF.nm : (Tryz.f97.name == "runtime.NumGoroutine") = false := by kernel_rfl
theorem eF.bd : Tryz.f97.body.isNone = false := by kernel_rfl
end Lam
namespace Lam
open Go Go.Proofs
theorem kH.at : Tryz.prog.funcs[44]? = some Tryz.f44 := by kernel_rfl
theorem kH.nm : (Tryz.f44.name == "runtime.NumGoroutine") = false := by kernel_rfl
theorem kH.bd : Tryz.f44.body.isNone = false := by kernel_rfl
theorem aIt : Tryz.prog.underlying 20 = some (.interface (Tryz.prog.methodsAt 20)) := by kernel_rfl
theorem aMb (q : Value) (w : World) : ∃ c, Tryz.f44.body = some c ∧ ∀ (Q : Exit → Act → List Frame → World → Prop) (c₀ : Frame) (cs : List Frame), c₀.mode = .returning → (∀ a', a'.defers = [] → Q .normal a' (c₀ :: cs) w) →
     c.wpS Tryz.prog Q { tmps := #[q] ++ Array.replicate 12 undef, defers := [] } (c₀ :: cs) w := by
 delta Tryz.f44
 refine ⟨_, rfl, fun Q c₀ cs hu hQ => wpS_seq (wpS_region ?_)⟩
 simp [wpOpsS, Region.wanted, execOp, resolve, invoke, builtin, recoverD, hu, Exit.thenS, Act.put]
 refine wpS_of_wp (wp_block (wp_seq (wp_region ?_)))
 simp [wpOps, Region.wanted, Oper.wp, Oper.upon, execOp, Act.eval, Act.put, eqGuard, binOp, run_equal_nil_nil w 20 aIt]
 refine .inl (wp_cond_true (by simp [Act.eval]) (wp_region ?_))
 simp [wpOps, Region.wanted, Oper.wp, Oper.upon, execOp, Act.eval, Act.put, Exit.inBlock]
 exact .inl (hQ _ rfl)
def rY : Code → Nat × Array Oper × Nat × Array Oper
 | .seq _ (.block _ (.seq _ (.cond _ _ (.seq _ (.cond _ (.seq (.region i a _) (.region j b _)) _))))) => (i, a, j, b)
 | _ => (0, #[], 0, #[])
def aFJ (c : Code) : List Oper := (rY c).2.1.toList
def aFK (c : Code) : List Oper := (rY c).2.2.2.toList
abbrev vX : Ctx := ctx [] [] cI.loops
theorem rF : Ok Tryz.prog vX := bR (by simp) (by simp) _
theorem aMc (q : Value) : ∃ c, Tryz.f44.body = some c ∧ (aFJ c).all (fun o => match o.dst with | none => true | some d => Nat.blt d 13) = true ∧ (aFK c).all (fun o => match o.dst with | none => true | some d => Nat.blt d 13) = true ∧
     (∀ (h : List AObj) (id : Nat) (n : Int) (KP : List (Nat × AV) → AV → List AObj → Prop), h[id]? = some (.box (.int .i64 n)) → opsW vX [] (aFJ c) KP (fun t h' => opsW vX [] (aFK c) KP (fun _ h' => h' = (h ++ [AObj.box (.agg [])]).set id (AObj.box (.int .i64 110))) (aFK c) [] t h') (aFJ c) [] [(0, .ptr id []), (10, .agg [])] h) ∧
     ∀ (u : Value) (w : World) (Q : Exit → Act → List Frame → World → Prop) (c₀ : Frame) (cs : List Frame), c₀.mode = .panicking [{ v := .iface 128 u, recovered := false }] →
     (∀ a : Act, a.defers = [] → a.tmps.size = 13 → a.tmps.getD 0 undef = q → a.tmps.getD 10 undef = u →
       (Code.seq (.region (rY c).1 (rY c).2.1 false) (.region (rY c).2.2.1 (rY c).2.2.2 false)).wpIn (FW none) 0 Tryz.prog (Exit.inBlock 0 fun e a' w' => Q e a' ({ c₀ with mode := .panicking [{ v := .iface 128 u, recovered := true }] } :: cs) w') a w) →
     c.wpS Tryz.prog Q { tmps := #[q] ++ Array.replicate 12 undef, defers := [] } (c₀ :: cs) w := by
 delta Tryz.f44
 refine ⟨_, rfl, by decide, by decide, ?_, fun u w Q c₀ cs hu hQ => wpS_seq (wpS_region ?_)⟩
 · intro h id n KP hid
   have hlt := (List.getElem?_eq_some_iff.1 hid).1
   have e1 : (h ++ [AObj.box (.agg [])])[h.length]? = some (.box (.agg [])) := by simp
   have e2 : ∀ o, ((h ++ [AObj.box (.agg [])]).set h.length o)[id]? = some (.box (.int .i64 n)) := fun o => by
     rw [List.getElem?_set, if_neg (by omega), List.getElem?_append_left hlt]; exact hid
   show cP (.strct []) h fun t3 h1 => runH (aO (.strct []) h1 t3 (.agg [])) h1 fun _ h => runD (cV (.ptr id [])) h fun t12 h => runH (aO (.int .i64) h t12 (.int .i64 110)) h fun _ h' => h' = _
   simp only [e1, e2, go_sem, reduceEqDiff, Nat.reduceLT, reduceAdd, reduceSub, reduceLeDiff, reduceReplicate, reduceToNat]
   have e3 : (h ++ [AObj.box (.agg [])]).set h.length (AObj.box (.agg [])) = h ++ [AObj.box (.agg [])] := by simp
   rw [e3]
 · simp [wpOpsS, Region.wanted, execOp, resolve, invoke, builtin, recoverD, hu, Exit.thenS, Act.put]
   refine wpS_of_wp (wp_block (wp_seq (wp_region ?_)))
   simp [wpOps, Region.wanted, Oper.wp, Oper.upon, execOp, Act.eval, Act.put, eqGuard, binOp, run_equal_held_nil w 20 128 u aIt]
   refine .inl (wp_cond_false (by simp [Act.eval]) (wp_seq (wp_region ?_)))
   have hta : (Instr.typeAssert (.iface 128 u) 20 128 true).run Tryz.prog w = .ok (.tuple #[u, .bool true]) w := by
     have h0 : Tryz.prog.underlying 128 = some (.struct #[]) := by kernel_rfl
     simp [Instr.typeAssert, underlying, h0]
   have hr3 : List.range 3 = [0, 1, 2] := rfl
   simp [hr3, wpOps, Region.wanted, Oper.wp, Oper.upon, execOp, Act.eval, Act.put, hta, Instr.extract]
   refine .inl (.inl (.inl (wp_cond_true (by simp [Act.eval]) (wpIn_wide.1 (hQ { tmps := _, defers := [] } rfl ?_ ?_ ?_))))) <;> simp
theorem kH.tspec : aJf Tryz.prog 44 128 110 := by
 refine ⟨sQ kH.at kH.nm kH.bd, fun q w => ?_, fun X id q z n H hq hz hbox => ?_⟩
 · obtain ⟨c, hb, h⟩ := aMb q w
   refine wL kH.at hb fun c₀ cs hu => h _ c₀ cs hu fun a' hd => ?_
   refine ⟨hd, .returning, ?_, .tuple #[], ?_, ⟨_, rfl⟩, rfl, rfl⟩
   · rw [← hu]
   · have : Tryz.f44.results = #[] := by kernel_rfl
     rw [uQ, this, Array.mapM_eq_mapM_toList]; rfl
 · simp only [VV] at hz
   obtain ⟨u, rfl, hu⟩ := hz
   obtain ⟨c, hb, hd1, hd2, hW, h⟩ := aMc q
   refine wL kH.at hb fun c₀ cs hc => h u X.w _ c₀ cs hc fun a had hs h0 h10 => wpIn_seq (wpIn_region_list ?_)
   have R : SR 13 ⟨X.w.heap.size, []⟩ X [(0, .ptr id []), (10, .agg [])] a := by
     refine ⟨fun i => ?_, Nat.le_of_eq hs.symm, [], had, trivial⟩
     simp only [get]
     split
     · rename_i e; obtain rfl := Nat.eq_of_beq_eq_true e; rw [h0]; exact hq
     · split
       · rename_i e; obtain rfl := Nat.eq_of_beq_eq_true e; rw [h10]; exact hu
       · trivial
   have dst : ∀ {l : List Oper}, (l.all fun o => match o.dst with | none => true | some d => Nat.blt d 13) = true → ∀ o ∈ l, ∀ i, o.dst = some i → i < 13 := by
     intro l hl o ho i hi
     rw [List.all_eq_true] at hl
     have := hl o ho
     rw [hi] at this
     simpa using this
   have hw := hW X.h id n (fun _ _ _ => False) hbox
   have := nT (ro := none) (n := 13) (ds := ⟨X.w.heap.size, []⟩) (rest := []) (c := vX) rF.ok rF.s rF.plain (B := X) (fun l => yY (rF.y l)) 0 (rY c).2.1 (aFJ c) [] _ X a (dst hd1) (Kn.nil _) (Ext.refl X) H R hw
     (Q := Exit.then ((Code.region (rY c).2.2.1 (rY c).2.2.2 false).wpIn (FW none) 0 Tryz.prog (Exit.inBlock 0 fun e a' w' => bodyPostS Tryz.prog Tryz.f44 c₀ cs (fun e u' w' => (∃ v, e = .returned v) ∧ u' = .panicking [{ v := .iface 128 u, recovered := true }] ∧
     ∃ Y : Cx, Y.w = w' ∧ HR Y ∧ Ext X Y ∧ Y.h = (X.h ++ [AObj.box (.agg [])]).set id (AObj.box (.int .i64 110))) e a' ({ c₀ with mode := .panicking [{ v := .iface 128 u, recovered := true }] } :: cs) w')) (Exit.inBlock 0 fun e a' w' => bodyPostS Tryz.prog Tryz.f44 c₀ cs (fun e u' w' => (∃ v, e = .returned v) ∧ u' = .panicking [{ v := .iface 128 u, recovered := true }] ∧
     ∃ Y : Cx, Y.w = w' ∧ HR Y ∧ Ext X Y ∧ Y.h = (X.h ++ [AObj.box (.agg [])]).set id (AObj.box (.int .i64 110))) e a' ({ c₀ with mode := .panicking [{ v := .iface 128 u, recovered := true }] } :: cs) w')) ?_ (fun Y t' v q a' HY EY RY hf hv => hf.elim)
   · rw [List.append_nil] at this; exact this
   intro Y t' a' HY EY RY hs hk
   refine wpIn_region_list (F := FW none) (n := 0) (id := (rY c).2.2.1) ?_
   have := nT (ro := none) (n := 13) (ds := ⟨X.w.heap.size, []⟩) (rest := []) (c := vX) rF.ok rF.s rF.plain (B := Y) (fun l => yY (rF.y l)) 0 (rY c).2.2.2 (aFK c) [] _ Y a' (dst hd2) (Kn.nil _) (Ext.refl Y) HY RY hk
     (Q := Exit.inBlock 0 fun e a' w' => bodyPostS Tryz.prog Tryz.f44 c₀ cs (fun e u' w' => (∃ v, e = .returned v) ∧ u' = .panicking [{ v := .iface 128 u, recovered := true }] ∧
     ∃ Y : Cx, Y.w = w' ∧ HR Y ∧ Ext X Y ∧ Y.h = (X.h ++ [AObj.box (.agg [])]).set id (AObj.box (.int .i64 110))) e a' ({ c₀ with mode := .panicking [{ v := .iface 128 u, recovered := true }] } :: cs) w') ?_ (fun Y t' v q a' HY EY RY hf hv => hf.elim)
   · rw [List.append_nil] at this; exact this
   intro Z t'' a'' HZ EZ RZ hs2 hk2
   refine ⟨by rw [hs2.2, hs.2, had], _, rfl, .tuple #[], ?_, ⟨_, rfl⟩, rfl, Z, rfl, HZ, EY.trans EZ, hk2⟩
   have : Tryz.f44.results = #[] := by kernel_rfl
   rw [uQ, this, Array.mapM_eq_mapM_toList]; rfl
end Lam
namespace Lam
open Go Go.Proofs
def bA.loops : Nat → bX
 | _ => ⟨[], [], [], [], [], []⟩
def bA.H (c : Ctx) (t0 : AV) (h : List AObj) (K : AOut → List AObj → Prop) : Prop :=
 rH (AV.len aM h t0) h fun t4 h =>
 aW t4
 (K (.ret (.sl true (.ints .i64 []))) h)
 (runD (eN aM 0 [] h.length) h fun t5 h =>
 jC (fI aM h t5 t0 h.length) (fW aM h t5 t0) h fun t7 h =>
 K (.ret t7) h)
def bU.loops : Nat → bX
 | 4 => ⟨[13], [false], [0, 1, 12], [], [], []⟩
 | _ => ⟨[], [], [], [], [], []⟩
def bU.L1 (c : Ctx) (J1 : List AObj → Prop) (K : AOut → List AObj → Prop) (lv : List AV) (h0 : List AObj) (n0 : Nat) (c0 : AV) (c1 : AV) (c12 : AV) : Prop :=
 ∃ I : Nat → List AV → List AObj → Prop, (∃ n, I n lv h0) ∧ ∀ n h, ∀ t13, I n [t13] h →
 runD (binD aB .lss t13 c12) h fun t14 h =>
 aW t14
 (runD (aH aM h c0 t13) h fun t18 h =>
 runD (fitD aB (aD h t18)) h fun t19 h =>
 runD (aH aM h c1 t13) h fun t22 h =>
 runD (fitD aB (aD h t22)) h fun t23 h =>
 runD (binD aB .neq t19 t23) h fun t24 h =>
 aW t24
 (K (.ret (.bool false)) h)
 (runD (binD aB .add t13 (.int .i64 1)) h fun t25 h =>
 (∃ m, m < n ∧ I m (AV.norms n0 h [t25]) (cJ n0 h)) ∧ AV.norms n0 h [c0, c1, c12] = [c0, c1, c12]))
 (J1 h)
def bU.H (c : Ctx) (t0 : AV) (t1 : AV) (h : List AObj) (K : AOut → List AObj → Prop) : Prop :=
 runD (lenD aM h t0) h fun t7 h =>
 runD (lenD aM h t1) h fun t9 h =>
 runD (binD aB .neq t7 t9) h fun t10 h =>
 aW t10
 (K (.ret (.bool false)) h)
 (runD (lenD aM h t0) h fun t12 h =>
 aJ (fun (J1 : List AObj → Prop) =>
 dC [false] [(.int .i64 0)] h fun lv h => bU.L1 c J1 K (AV.norms h.length h lv) (cJ h.length h) h.length (AV.norm h.length h t0) (AV.norm h.length h t1) (AV.norm h.length h t12))
 (fun h => K (.ret (.bool true)) h))
def bE.loops : Nat → bX
 | 2 => ⟨[], [], [], [], [2], []⟩
 | _ => ⟨[], [], [], [], [], []⟩
def bE.H (c : Ctx) (t0 : AV) (t1 : AV) (h : List AObj) (K : AOut → List AObj → Prop) : Prop :=
 boxW bW t0 h fun t2 h =>
 aJ (fun (J1 : AV → List AObj → Prop) =>
 vI c.iterS t1 (boxH [t2] h)
 (fun id r args h K => lpIs h id .ready r ∧ yM args fun t7 =>
 cP iT h fun t5 h =>
 runH (aO iT h t5 t7) h fun _ h =>
 lpIs h id .ready r ∧
 runD (fitD bW (aD (List.set h id (.lp .busy none r)) t2)) (List.set h id (.lp .busy none r)) fun t8 h =>
 runD (fitD iT (aD h t5)) h fun t9 h =>
 runD (eN bW 1 [(0, t9)] h.length) h fun t10 h =>
 jC (fI bW h t8 t10 h.length) (fW bW h t8 t10) h fun t11 h =>
 runH (aO bW h t2 t11) h fun _ h =>
 lpIs h id .busy r ∧ K (.ret (.bool true)) (List.set h id (.lp .ready none r)))
 (fun id r ao h => endX id r ao h
 (fun h => J1 t2 h)
 (fun h => K (.ret (.sl true (.pairs []))) h)
 (fun i h => aCD i 0 (J1 t2 h) (False))
 (fun l h => False)
 (fun v h => K (.pan v) h)))
 (fun t2 h => runD (fitD bW (aD h t2)) h fun t12 h =>
 K (.ret t12) h)
def bQ.loops : Nat → bX
 | _ => ⟨[], [], [], [], [], []⟩
def bQ.H (c : Ctx) (t0 : AV) (h : List AObj) (K : AOut → List AObj → Prop) : Prop :=
 rH (AV.len bW h t0) h fun t4 h =>
 aW t4
 (K (.ret (.sl true (.pairs []))) h)
 (runD (eN bW 0 [] h.length) h fun t5 h =>
 jC (fI bW h t5 t0 h.length) (fW bW h t5 t0) h fun t7 h =>
 K (.ret t7) h)
def cE.loops : Nat → bX
 | _ => ⟨[], [], [], [], [], []⟩
def cE.H (c : Ctx) (t0 : AV) (t1 : AV) (h : List AObj) (K : AOut → List AObj → Prop) : Prop :=
 aQ false c (.fn (.func 104) [] []) [t0, t1] h (fun t7 h =>
 runD (binD aB .geq t7 (.int .i64 0)) h fun t8 h =>
 K (.ret t8) h)
 (fun v h => K (.pan v) h)
def bO.loops : Nat → bX
 | 4 => ⟨[3], [false], [0], [], [], []⟩
 | 9 => ⟨[3, 5], [false, false], [0, 4], [], [], []⟩
 | _ => ⟨[], [], [], [], [], []⟩
def bO.L2 (c : Ctx) (J3 : AV → AV → List AObj → Prop) (K : AOut → List AObj → Prop) (lv : List AV) (h0 : List AObj) (n0 : Nat) (c0 : AV) (c4 : AV) : Prop :=
 ∃ I : Nat → List AV → List AObj → Prop, (∃ n, I n lv h0) ∧ ∀ n h, ∀ t3, ∀ t5, I n [t3, t5] h →
 runD (lenD aM h c4) h fun t31 h =>
 runD (binD aB .lss t5 t31) h fun t32 h =>
 aW t32
 (runD (aH aM h c4 t5) h fun t37 h =>
 runD (fitD aB (aD h t37)) h fun t38 h =>
 runD (binD aB .sub t5 (.int .i64 1)) h fun t41 h =>
 runD (aH aM h c4 t41) h fun t42 h =>
 runD (fitD aB (aD h t42)) h fun t43 h =>
 runD (binD aB .neq t38 t43) h fun t44 h =>
 aJ (fun (J4 : AV → List AObj → Prop) =>
 aW t44
 (runD (aH aM h c4 t5) h fun t49 h =>
 runD (fitD aB (aD h t49)) h fun t50 h =>
 runD (aH aM h c0 t3) h fun t51 h =>
 runH (aO aB h t51 t50) h fun _ h =>
 runD (binD aB .add t3 (.int .i64 1)) h fun t53 h =>
 J4 t53 h)
 (J4 t3 h))
 (fun t3 h => runD (binD aB .add t5 (.int .i64 1)) h fun t34 h =>
 (∃ m, m < n ∧ I m (AV.norms n0 h [t3, t34]) (cJ n0 h)) ∧ AV.norms n0 h [c0, c4] = [c0, c4]))
 (J3 c0 t3 h)
def bO.L1 (c : Ctx) (J1 : AV → List AObj → Prop) (K : AOut → List AObj → Prop) (lv : List AV) (h0 : List AObj) (n0 : Nat) (c0 : AV) : Prop :=
 ∃ I : Nat → List AV → List AObj → Prop, (∃ n, I n lv h0) ∧ ∀ n h, ∀ t3, I n [t3] h →
 runD (lenD aM h c0) h fun t12 h =>
 runD (binD aB .lss t3 t12) h fun t13 h =>
 aW t13
 (aJ (fun (J2 : AV → AV → List AObj → Prop) =>
 runD (aH aM h c0 t3) h fun t18 h =>
 runD (fitD aB (aD h t18)) h fun t19 h =>
 runD (binD aB .sub t3 (.int .i64 1)) h fun t22 h =>
 runD (aH aM h c0 t22) h fun t23 h =>
 runD (fitD aB (aD h t23)) h fun t24 h =>
 runD (binD aB .eql t19 t24) h fun t25 h =>
 aW t25
 (runD (dX aM h c0 (some t3) none none) h fun t28 h =>
 aJ (fun (J3 : AV → AV → List AObj → Prop) =>
 dC [false, false] [t3, (.int .i64 1)] h fun lv h => bO.L2 c J3 K (AV.norms h.length h lv) (cJ h.length h) h.length (AV.norm h.length h c0) (AV.norm h.length h t28))
 (fun t0 t3 h => runD (dX aM h t0 (some t3) none none) h fun t56 h =>
 runM (oA aM h t56) h fun _ h =>
 runD (dX aM h t0 none (some t3) none) h fun t59 h =>
 K (.ret t59) h))
 (J2 c0 t3 h))
 (fun t0 t3 h => runD (binD aB .add t3 (.int .i64 1)) h fun t15 h =>
 (∃ m, m < n ∧ I m (AV.norms n0 h [t15]) (cJ n0 h)) ∧ AV.norms n0 h [t0] = [c0]))
 (J1 c0 h)
def bO.H (c : Ctx) (t0 : AV) (h : List AObj) (K : AOut → List AObj → Prop) : Prop :=
 runD (lenD aM h t0) h fun t7 h =>
 runD (binD aB .lss t7 (.int .i64 2)) h fun t8 h =>
 aW t8
 (K (.ret t0) h)
 (aJ (fun (J1 : AV → List AObj → Prop) =>
 dC [false] [(.int .i64 1)] h fun lv h => bO.L1 c J1 K (AV.norms h.length h lv) (cJ h.length h) h.length (AV.norm h.length h t0))
 (fun t0 h => K (.ret t0) h))
def bN.loops : Nat → bX
 | 2 => ⟨[8], [false], [0, 1, 7], [], [], []⟩
 | _ => ⟨[], [], [], [], [], []⟩
def bN.L1 (c : Ctx) (J1 : List AObj → Prop) (K : AOut → List AObj → Prop) (lv : List AV) (h0 : List AObj) (n0 : Nat) (c0 : AV) (c1 : AV) (c7 : AV) : Prop :=
 ∃ I : Nat → List AV → List AObj → Prop, (∃ n, I n lv h0) ∧ ∀ n h, ∀ t8, I n [t8] h →
 runD (binD aB .lss t8 c7) h fun t9 h =>
 aW t9
 (runD (aH aM h c0 t8) h fun t14 h =>
 runD (fitD aB (aD h t14)) h fun t15 h =>
 aQ false c c1 [t15] h (fun t16 h =>
 aW t16
 (K (.ret t8) h)
 (runD (binD aB .add t8 (.int .i64 1)) h fun t18 h =>
 (∃ m, m < n ∧ I m (AV.norms n0 h [t18]) (cJ n0 h)) ∧ AV.norms n0 h [c0, c1, c7] = [c0, c1, c7]))
 (fun v h => K (.pan v) h))
 (J1 h)
def bN.H (c : Ctx) (t0 : AV) (t1 : AV) (h : List AObj) (K : AOut → List AObj → Prop) : Prop :=
 runD (lenD aM h t0) h fun t7 h =>
 aJ (fun (J1 : List AObj → Prop) =>
 dC [false] [(.int .i64 0)] h fun lv h => bN.L1 c J1 K (AV.norms h.length h lv) (cJ h.length h) h.length (AV.norm h.length h t0) (AV.norm h.length h t1) (AV.norm h.length h t7))
 (fun h => K (.ret (.int .i64 (-1))) h)
def cG.loops : Nat → bX
 | 2 => ⟨[8], [false], [0, 1, 7], [], [], []⟩
 | _ => ⟨[], [], [], [], [], []⟩
def cG.L1 (c : Ctx) (J1 : List AObj → Prop) (K : AOut → List AObj → Prop) (lv : List AV) (h0 : List AObj) (n0 : Nat) (c0 : AV) (c1 : AV) (c7 : AV) : Prop :=
 ∃ I : Nat → List AV → List AObj → Prop, (∃ n, I n lv h0) ∧ ∀ n h, ∀ t8, I n [t8] h →
 runD (binD aB .lss t8 c7) h fun t9 h =>
 aW t9
 (runD (aH aM h c0 t8) h fun t14 h =>
 runD (fitD aB (aD h t14)) h fun t15 h =>
 runD (binD aB .eql c1 t15) h fun t16 h =>
 aW t16
 (K (.ret t8) h)
 (runD (binD aB .add t8 (.int .i64 1)) h fun t18 h =>
 (∃ m, m < n ∧ I m (AV.norms n0 h [t18]) (cJ n0 h)) ∧ AV.norms n0 h [c0, c1, c7] = [c0, c1, c7]))
 (J1 h)
def cG.H (c : Ctx) (t0 : AV) (t1 : AV) (h : List AObj) (K : AOut → List AObj → Prop) : Prop :=
 runD (lenD aM h t0) h fun t7 h =>
 aJ (fun (J1 : List AObj → Prop) =>
 dC [false] [(.int .i64 0)] h fun lv h => cG.L1 c J1 K (AV.norms h.length h lv) (cJ h.length h) h.length (AV.norm h.length h t0) (AV.norm h.length h t1) (AV.norm h.length h t7))
 (fun h => K (.ret (.int .i64 (-1))) h)
def bV.loops : Nat → bX
 | _ => ⟨[], [], [], [], [], []⟩
def bV.H (c : Ctx) (t0 : AV) (t1 : AV) (h : List AObj) (K : AOut → List AObj → Prop) : Prop :=
 aQ false c (.fn (.func 102) [] []) [t0, t1] h (fun t7 h =>
 runD (binD aB .geq t7 (.int .i64 0)) h fun t8 h =>
 K (.ret t8) h)
 (fun v h => K (.pan v) h)
def aS.loops : Nat → bX
 | _ => ⟨[], [], [], [], [], []⟩
def aS.H (c : Ctx) (t0 : AV) (t1 : AV) (h : List AObj) (K : AOut → List AObj → Prop) : Prop :=
 aQ false c (.fn (.func 147) [] []) [t0, t1] h (fun t7 h =>
 runD (binD aB .geq t7 (.int .i64 0)) h fun t8 h =>
 K (.ret t8) h)
 (fun v h => K (.pan v) h)
def aP.loops : Nat → bX
 | 2 => ⟨[8], [false], [0, 1, 7], [], [], []⟩
 | _ => ⟨[], [], [], [], [], []⟩
def aP.L1 (c : Ctx) (J1 : List AObj → Prop) (K : AOut → List AObj → Prop) (lv : List AV) (h0 : List AObj) (n0 : Nat) (c0 : AV) (c1 : AV) (c7 : AV) : Prop :=
 ∃ I : Nat → List AV → List AObj → Prop, (∃ n, I n lv h0) ∧ ∀ n h, ∀ t8, I n [t8] h →
 runD (binD aB .lss t8 c7) h fun t9 h =>
 aW t9
 (runD (aH kB h c0 t8) h fun t14 h =>
 runD (fitD fM (aD h t14)) h fun t15 h =>
 aQ false c c1 [t15] h (fun t16 h =>
 aW t16
 (K (.ret t8) h)
 (runD (binD aB .add t8 (.int .i64 1)) h fun t18 h =>
 (∃ m, m < n ∧ I m (AV.norms n0 h [t18]) (cJ n0 h)) ∧ AV.norms n0 h [c0, c1, c7] = [c0, c1, c7]))
 (fun v h => K (.pan v) h))
 (J1 h)
def aP.H (c : Ctx) (t0 : AV) (t1 : AV) (h : List AObj) (K : AOut → List AObj → Prop) : Prop :=
 runD (lenD kB h t0) h fun t7 h =>
 aJ (fun (J1 : List AObj → Prop) =>
 dC [false] [(.int .i64 0)] h fun lv h => aP.L1 c J1 K (AV.norms h.length h lv) (cJ h.length h) h.length (AV.norm h.length h t0) (AV.norm h.length h t1) (AV.norm h.length h t7))
 (fun h => K (.ret (.int .i64 (-1))) h)
def bJ.loops : Nat → bX
 | _ => ⟨[], [], [], [], [], []⟩
def bJ.H (c : Ctx) (t0 : AV) (h : List AObj) (K : AOut → List AObj → Prop) : Prop :=
 runD (lenD cK h t0) h fun t5 h =>
 runD (lenD cK h t0) h fun t7 h =>
 runD (dX cK h t0 none (some t5) (some t7)) h fun t8 h =>
 K (.ret t8) h
def bH.loops : Nat → bX
 | _ => ⟨[], [], [], [], [], []⟩
def bH.H (c : Ctx) (t0 : AV) (h : List AObj) (K : AOut → List AObj → Prop) : Prop :=
 rH (AV.len cK h t0) h fun t4 h =>
 aW t4
 (K (.ret (.sl true (.pends []))) h)
 (runD (eN cK 0 [] h.length) h fun t5 h =>
 jC (fI cK h t5 t0 h.length) (fW cK h t5 t0) h fun t7 h =>
 K (.ret t7) h)
theorem bA.eq (F : List (FuncId × aE)) (S : List (FuncId × Con)) (t0 : AV) (h : List AObj) (K : AOut → List AObj → Prop) : funW (ctx F S bA.loops) Tryz.f34 [t0] h K = bA.H (ctx F S bA.loops) t0 h K := by kernel_rfl
theorem bU.eq (F : List (FuncId × aE)) (S : List (FuncId × Con)) (t0 t1 : AV) (h : List AObj) (K : AOut → List AObj → Prop) : funW (ctx F S bU.loops) Tryz.f35 [t0, t1] h K = bU.H (ctx F S bU.loops) t0 t1 h K := by kernel_rfl
theorem bE.eq (F : List (FuncId × aE)) (S : List (FuncId × Con)) (Is : List (FuncId × (Con → Con))) (t0 t1 : AV) (h : List AObj) (K : AOut → List AObj → Prop) : funW (ctxI F S Is bE.loops) Tryz.f51 [t0, t1] h K = bE.H (ctxI F S Is bE.loops) t0 t1 h K := by kernel_rfl
theorem bQ.eq (F : List (FuncId × aE)) (S : List (FuncId × Con)) (t0 : AV) (h : List AObj) (K : AOut → List AObj → Prop) : funW (ctx F S bQ.loops) Tryz.f72 [t0] h K = bQ.H (ctx F S bQ.loops) t0 h K := by kernel_rfl
theorem cE.eq (F : List (FuncId × aE)) (S : List (FuncId × Con)) (t0 t1 : AV) (h : List AObj) (K : AOut → List AObj → Prop) : funW (ctx F S cE.loops) Tryz.f83 [t0, t1] h K = cE.H (ctx F S cE.loops) t0 t1 h K := by kernel_rfl
theorem bO.eq (F : List (FuncId × aE)) (S : List (FuncId × Con)) (t0 : AV) (h : List AObj) (K : AOut → List AObj → Prop) : funW (ctx F S bO.loops) Tryz.f98 [t0] h K = bO.H (ctx F S bO.loops) t0 h K := by kernel_rfl
theorem bN.eq (F : List (FuncId × aE)) (S : List (FuncId × Con)) (t0 t1 : AV) (h : List AObj) (K : AOut → List AObj → Prop) : funW (ctx F S bN.loops) Tryz.f102 [t0, t1] h K = bN.H (ctx F S bN.loops) t0 t1 h K := by kernel_rfl
theorem cG.eq (F : List (FuncId × aE)) (S : List (FuncId × Con)) (t0 t1 : AV) (h : List AObj) (K : AOut → List AObj → Prop) : funW (ctx F S cG.loops) Tryz.f104 [t0, t1] h K = cG.H (ctx F S cG.loops) t0 t1 h K := by kernel_rfl
theorem bV.eq (F : List (FuncId × aE)) (S : List (FuncId × Con)) (t0 t1 : AV) (h : List AObj) (K : AOut → List AObj → Prop) : funW (ctx F S bV.loops) Tryz.f106 [t0, t1] h K = bV.H (ctx F S bV.loops) t0 t1 h K := by kernel_rfl
theorem aS.eq (F : List (FuncId × aE)) (S : List (FuncId × Con)) (t0 t1 : AV) (h : List AObj) (K : AOut → List AObj → Prop) : funW (ctx F S aS.loops) Tryz.f136 [t0, t1] h K = aS.H (ctx F S aS.loops) t0 t1 h K := by kernel_rfl
theorem aP.eq (F : List (FuncId × aE)) (S : List (FuncId × Con)) (t0 t1 : AV) (h : List AObj) (K : AOut → List AObj → Prop) : funW (ctx F S aP.loops) Tryz.f147 [t0, t1] h K = aP.H (ctx F S aP.loops) t0 t1 h K := by kernel_rfl
theorem bJ.eq (F : List (FuncId × aE)) (S : List (FuncId × Con)) (t0 : AV) (h : List AObj) (K : AOut → List AObj → Prop) : funW (ctx F S bJ.loops) Tryz.f153 [t0] h K = bJ.H (ctx F S bJ.loops) t0 h K := by kernel_rfl
theorem bH.eq (F : List (FuncId × aE)) (S : List (FuncId × Con)) (t0 : AV) (h : List AObj) (K : AOut → List AObj → Prop) : funW (ctx F S bH.loops) Tryz.f155 [t0] h K = bH.H (ctx F S bH.loops) t0 h K := by kernel_rfl
theorem bA.at : Tryz.prog.funcs[34]? = some Tryz.f34 := by kernel_rfl
theorem bA.nm : (Tryz.f34.name == "runtime.NumGoroutine") = false := by kernel_rfl
theorem bA.bd : Tryz.f34.body.isNone = false := by kernel_rfl
theorem bU.at : Tryz.prog.funcs[35]? = some Tryz.f35 := by kernel_rfl
theorem bU.nm : (Tryz.f35.name == "runtime.NumGoroutine") = false := by kernel_rfl
theorem bU.bd : Tryz.f35.body.isNone = false := by kernel_rfl
theorem bE.at : Tryz.prog.funcs[51]? = some Tryz.f51 := by kernel_rfl
theorem bE.nm : (Tryz.f51.name == "runtime.NumGoroutine") = false := by kernel_rfl
theorem bE.bd : Tryz.f51.body.isNone = false := by kernel_rfl
theorem bQ.at : Tryz.prog.funcs[72]? = some Tryz.f72 := by kernel_rfl
theorem bQ.nm : (Tryz.f72.name == "runtime.NumGoroutine") = false := by kernel_rfl
theorem bQ.bd : Tryz.f72.body.isNone = false := by kernel_rfl
theorem cE.at : Tryz.prog.funcs[83]? = some Tryz.f83 := by kernel_rfl
theorem cE.nm : (Tryz.f83.name == "runtime.NumGoroutine") = false := by kernel_rfl
theorem cE.bd : Tryz.f83.body.isNone = false := by kernel_rfl
theorem bO.at : Tryz.prog.funcs[98]? = some Tryz.f98 := by kernel_rfl
theorem bO.nm : (Tryz.f98.name == "runtime.NumGoroutine") = false := by kernel_rfl
theorem bO.bd : Tryz.f98.body.isNone = false := by kernel_rfl
theorem bN.at : Tryz.prog.funcs[102]? = some Tryz.f102 := by kernel_rfl
theorem bN.nm : (Tryz.f102.name == "runtime.NumGoroutine") = false := by kernel_rfl
theorem bN.bd : Tryz.f102.body.isNone = false := by kernel_rfl
theorem cG.at : Tryz.prog.funcs[104]? = some Tryz.f104 := by kernel_rfl
theorem cG.nm : (Tryz.f104.name == "runtime.NumGoroutine") = false := by kernel_rfl
theorem cG.bd : Tryz.f104.body.isNone = false := by kernel_rfl
theorem bV.at : Tryz.prog.funcs[106]? = some Tryz.f106 := by kernel_rfl
theorem bV.nm : (Tryz.f106.name == "runtime.NumGoroutine") = false := by kernel_rfl
theorem bV.bd : Tryz.f106.body.isNone = false := by kernel_rfl
theorem aS.at : Tryz.prog.funcs[136]? = some Tryz.f136 := by kernel_rfl
theorem aS.nm : (Tryz.f136.name == "runtime.NumGoroutine") = false := by kernel_rfl
theorem aS.bd : Tryz.f136.body.isNone = false := by kernel_rfl
theorem aP.at : Tryz.prog.funcs[147]? = some Tryz.f147 := by kernel_rfl
theorem aP.nm : (Tryz.f147.name == "runtime.NumGoroutine") = false := by kernel_rfl
theorem aP.bd : Tryz.f147.body.isNone = false := by kernel_rfl
theorem bJ.at : Tryz.prog.funcs[153]? = some Tryz.f153 := by kernel_rfl
theorem bJ.nm : (Tryz.f153.name == "runtime.NumGoroutine") = false := by kernel_rfl
theorem bJ.bd : Tryz.f153.body.isNone = false := by kernel_rfl
theorem bH.at : Tryz.prog.funcs[155]? = some Tryz.f155 := by kernel_rfl
theorem bH.nm : (Tryz.f155.name == "runtime.NumGoroutine") = false := by kernel_rfl
theorem bH.bd : Tryz.f155.body.isNone = false := by kernel_rfl
end Lam
namespace Lam
open Go Go.Proofs
def gC.loops : Nat → bX
 | 1 => ⟨[], [], [], [(4, none), (2, some [8, 10]), (2, none), (2, some [12, 14])], [], []⟩
 | _ => ⟨[], [], [], [], [], []⟩
def gC.H (c : Ctx) (t0 : AV) (t1 : AV) (h : List AObj) (K : AOut → List AObj → Prop) : Prop :=
 aQ false c (.fn (.func 94) [] []) [t0] h (fun t6 h =>
 runD (unD .not t6) h fun t7 h =>
 aJ (fun (J1 : AV → AV → List AObj → Prop) =>
 aT t7 false
 (runD (binD aB .lss t1 (.int .i64 0)) h fun t10 h =>
 J1 (.bool false) t10 h)
 (J1 (.bool true) .und h))
 (fun t8 t10 h => runD (bK t8 (.bool true) t10) h fun t11 h =>
 aJ (fun (J2 : AV → AV → List AObj → Prop) =>
 aT t11 false
 (runD (binD aB .geq t1 (.int .i64 13)) h fun t14 h =>
 J2 (.bool false) t14 h)
 (J2 (.bool true) .und h))
 (fun t12 t14 h => runD (bK t12 (.bool true) t14) h fun t15 h =>
 aW t15
 (K (.ret (.int .i64 (-1))) h)
 (runD (binD aB .add t0 (.int .i64 3)) h fun t17 h =>
 runD (binD aB .add t17 t1) h fun t19 h =>
 K (.ret t19) h))))
 (fun v h => K (.pan v) h)
def eD.loops : Nat → bX
 | _ => ⟨[], [], [], [], [], []⟩
def eD.H (c : Ctx) (t0 : AV) (h : List AObj) (K : AOut → List AObj → Prop) : Prop :=
 aQ false c (.fn (.func 34) [] []) [t0] h (fun t4 h =>
 aQ false c (.fn (.func 98) [] []) [t4] h (fun t5 h =>
 K (.ret t5) h)
 (fun v h => K (.pan v) h))
 (fun v h => K (.pan v) h)
def gD.loops : Nat → bX
 | 1 => ⟨[], [], [], [(4, none), (5, some [10, 15])], [], []⟩
 | _ => ⟨[], [], [], [], [], []⟩
def gD.H (c : Ctx) (t0 : AV) (t1 : AV) (h : List AObj) (K : AOut → List AObj → Prop) : Prop :=
 aQ false c (.fn (.func 94) [] []) [t1] h (fun t8 h =>
 runD (unD .not t8) h fun t9 h =>
 aJ (fun (J1 : AV → AV → List AObj → Prop) =>
 aT t9 false
 (runD (binD aB .add t1 (.int .i64 16)) h fun t12 h =>
 runD (lenD aM h t0) h fun t14 h =>
 runD (binD aB .gtr t12 t14) h fun t15 h =>
 J1 (.bool false) t15 h)
 (J1 (.bool true) .und h))
 (fun t10 t15 h => runD (bK t10 (.bool true) t15) h fun t16 h =>
 aW t16
 (K (.ret (.sl true (.ints .i64 []))) h)
 (runD (binD aB .add t1 (.int .i64 3)) h fun t19 h =>
 runD (binD aB .add t1 (.int .i64 16)) h fun t21 h =>
 runD (binD aB .add t1 (.int .i64 16)) h fun t23 h =>
 runD (dX aM h t0 (some t19) (some t21) (some t23)) h fun t24 h =>
 aQ false c (.fn (.func 102) [] []) [t24, (.fn (.func 103) [] [])] h (fun t26 h =>
 runD (binD aB .lss t26 (.int .i64 0)) h fun t28 h =>
 aJ (fun (J2 : AV → List AObj → Prop) =>
 aW t28
 (runD (lenD aM h t24) h fun t30 h =>
 J2 t30 h)
 (J2 t26 h))
 (fun t6 h => runD (dX aM h t24 none (some t6) none) h fun t33 h =>
 aQ false c (.fn (.func 34) [] []) [t33] h (fun t34 h =>
 K (.ret t34) h)
 (fun v h => K (.pan v) h)))
 (fun v h => K (.pan v) h))))
 (fun v h => K (.pan v) h)
def gA.loops : Nat → bX
 | 1 => ⟨[], [], [], [(3, none), (3, some [5, 8]), (2, none), (3, some [10, 13])], [], []⟩
 | _ => ⟨[], [], [], [], [], []⟩
def gA.H (c : Ctx) (t0 : AV) (h : List AObj) (K : AOut → List AObj → Prop) : Prop :=
 runD (binD aB .geq t0 (.int .i64 0)) h fun t4 h =>
 aJ (fun (J1 : AV → AV → List AObj → Prop) =>
 aT t4 true
 (runD (binD aB .add t0 (.int .i64 16)) h fun t7 h =>
 runD (binD aB .leq t7 (.int .i64 4096)) h fun t8 h =>
 J1 (.bool true) t8 h)
 (J1 (.bool false) .und h))
 (fun t5 t8 h => runD (bK t5 t8 (.bool false)) h fun t9 h =>
 aJ (fun (J2 : AV → AV → List AObj → Prop) =>
 aT t9 true
 (runD (binD aB .rem t0 (.int .i64 16)) h fun t12 h =>
 runD (binD aB .eql t12 (.int .i64 0)) h fun t13 h =>
 J2 (.bool true) t13 h)
 (J2 (.bool false) .und h))
 (fun t10 t13 h => runD (bK t10 t13 (.bool false)) h fun t14 h =>
 K (.ret t14) h))
def fA.loops : Nat → bX
 | _ => ⟨[], [], [], [], [], []⟩
def fA.H (c : Ctx) (t0 : AV) (h : List AObj) (K : AOut → List AObj → Prop) : Prop :=
 runD (binD aB .lss t0 (.int .i64 1)) h fun t4 h =>
 K (.ret t4) h
theorem gC.eq (F : List (FuncId × aE)) (S : List (FuncId × Con)) (t0 t1 : AV) (h : List AObj) (K : AOut → List AObj → Prop) : funW (ctx F S gC.loops) Tryz.f68 [t0, t1] h K = gC.H (ctx F S gC.loops) t0 t1 h K := by kernel_rfl
theorem eD.eq (F : List (FuncId × aE)) (S : List (FuncId × Con)) (t0 : AV) (h : List AObj) (K : AOut → List AObj → Prop) : funW (ctx F S eD.loops) Tryz.f78 [t0] h K = eD.H (ctx F S eD.loops) t0 h K := by kernel_rfl
theorem gD.eq (F : List (FuncId × aE)) (S : List (FuncId × Con)) (t0 t1 : AV) (h : List AObj) (K : AOut → List AObj → Prop) : funW (ctx F S gD.loops) Tryz.f80 [t0, t1] h K = gD.H (ctx F S gD.loops) t0 t1 h K := by kernel_rfl
theorem gA.eq (F : List (FuncId × aE)) (S : List (FuncId × Con)) (t0 : AV) (h : List AObj) (K : AOut → List AObj → Prop) : funW (ctx F S gA.loops) Tryz.f94 [t0] h K = gA.H (ctx F S gA.loops) t0 h K := by kernel_rfl
theorem fA.eq (F : List (FuncId × aE)) (S : List (FuncId × Con)) (t0 : AV) (h : List AObj) (K : AOut → List AObj → Prop) : funW (ctx F S fA.loops) Tryz.f103 [t0] h K = fA.H (ctx F S fA.loops) t0 h K := by kernel_rfl
theorem gC.at : Tryz.prog.funcs[68]? = some Tryz.f68 := by kernel_rfl
theorem gC.nm : (Tryz.f68.name == "runtime.NumGoroutine") = false := by kernel_rfl
theorem gC.bd : Tryz.f68.body.isNone = false := by kernel_rfl
theorem eD.at : Tryz.prog.funcs[78]? = some Tryz.f78 := by kernel_rfl
theorem eD.nm : (Tryz.f78.name == "runtime.NumGoroutine") = false := by kernel_rfl
theorem eD.bd : Tryz.f78.body.isNone = false := by kernel_rfl
theorem gD.at : Tryz.prog.funcs[80]? = some Tryz.f80 := by kernel_rfl
theorem gD.nm : (Tryz.f80.name == "runtime.NumGoroutine") = false := by kernel_rfl
theorem gD.bd : Tryz.f80.body.isNone = false := by kernel_rfl
theorem gA.at : Tryz.prog.funcs[94]? = some Tryz.f94 := by kernel_rfl
theorem gA.nm : (Tryz.f94.name == "runtime.NumGoroutine") = false := by kernel_rfl
theorem gA.bd : Tryz.f94.body.isNone = false := by kernel_rfl
theorem fA.at : Tryz.prog.funcs[103]? = some Tryz.f103 := by kernel_rfl
theorem fA.nm : (Tryz.f103.name == "runtime.NumGoroutine") = false := by kernel_rfl
theorem fA.bd : Tryz.f103.body.isNone = false := by kernel_rfl
end Lam
namespace Lam
open Go Go.Proofs
def cN.loops : Nat → bX
 | 1 => ⟨[], [], [], [(3, none), (5, some [12, 17])], [], []⟩
 | 6 => ⟨[], [], [], [(3, none), (4, some [52, 56])], [], []⟩
 | _ => ⟨[], [], [], [], [], []⟩
def cN.H (c : Ctx) (t0 : AV) (t1 : AV) (h : List AObj) (K : AOut → List AObj → Prop) : Prop :=
 cP bB h fun t4 h =>
 runD (binD aB .lss t1 (.int .i64 0)) h fun t11 h =>
 aJ (fun (J1 : AV → AV → List AObj → Prop) =>
 aT t11 false
 (runD (lenD aM h t0) h fun t15 h =>
 runD (binD aB .quo t15 (.int .i64 16)) h fun t16 h =>
 runD (binD aB .geq t1 t16) h fun t17 h =>
 J1 (.bool false) t17 h)
 (J1 (.bool true) .und h))
 (fun t12 t17 h => runD (bK t12 (.bool true) t17) h fun t18 h =>
 aW t18
 (runD (gT bB []) h fun t19 h =>
 runH (aO bB h t4 t19) h fun _ h =>
 cT (fitD bB (aD h t4)) fun r0 => K (.ret (.tup [r0, (.int .i64 1)])) h)
 (runD (binD aB .mul (.int .i64 16) t1) h fun t22 h =>
 runD (binD aB .add t1 (.int .i64 1)) h fun t24 h =>
 runD (binD aB .mul (.int .i64 16) t24) h fun t25 h =>
 runD (dX aM h t0 (some t22) (some t25) none) h fun t26 h =>
 runD (aH aM h t26 (.int .i64 0)) h fun t28 h =>
 runD (fitD aB (aD h t28)) h fun t29 h =>
 runD (binD aB .and t29 (.int .i64 15)) h fun t30 h =>
 runD (aH aM h t26 (.int .i64 0)) h fun t32 h =>
 runD (fitD aB (aD h t32)) h fun t33 h =>
 runD (binD aB .andNot t33 (.int .i64 1152921504606846976)) h fun t34 h =>
 runD (binD aB .shr t34 (.int .u64 4)) h fun t35 h =>
 runD (aH aM h t26 (.int .i64 1)) h fun t37 h =>
 runD (fitD aB (aD h t37)) h fun t38 h =>
 runD (aH aM h t26 (.int .i64 2)) h fun t40 h =>
 runD (fitD aB (aD h t40)) h fun t41 h =>
 aQ false c.noS (.fn (.func 80) [] []) [t26, (.int .i64 0)] h (fun t43 h =>
 runD (gT bB [(0, t30), (1, t35), (2, t38), (3, t41), (4, t43)]) h fun t44 h =>
 cP bB h fun t7 h =>
 runH (aO bB h t7 t44) h fun _ h =>
 runD (fitD bB (aD h t7)) h fun t46 h =>
 aQ false c (.fn (.func 57) [] []) [t46] h (fun t47 h =>
 runD (aV t47 0) h fun t48 h =>
 runD (aV t47 1) h fun t49 h =>
 runD (binD cM .neq t49 (.int .i64 0)) h fun t51 h =>
 aJ (fun (J2 : AV → AV → List AObj → Prop) =>
 aT t51 false
 (aQ false c (.fn (.func 35) [] []) [t48, t26] h (fun t55 h =>
 runD (unD .not t55) h fun t56 h =>
 J2 (.bool false) t56 h)
 (fun v h => K (.pan v) h))
 (J2 (.bool true) .und h))
 (fun t52 t56 h => runD (bK t52 (.bool true) t56) h fun t57 h =>
 aW t57
 (runD (gT bB []) h fun t58 h =>
 runH (aO bB h t4 t58) h fun _ h =>
 cT (fitD bB (aD h t4)) fun r0 => K (.ret (.tup [r0, (.int .i64 90)])) h)
 (runD (fitD bB (aD h t7)) h fun t59 h =>
 runH (aO bB h t4 t59) h fun _ h =>
 cT (fitD bB (aD h t4)) fun r0 => K (.ret (.tup [r0, (.int .i64 0)])) h)))
 (fun v h => K (.pan v) h))
 (fun _ _ => False)))
def fE.loops : Nat → bX
 | _ => ⟨[], [], [], [], [], []⟩
def fE.H (c : Ctx) (t0 : AV) (h : List AObj) (K : AOut → List AObj → Prop) : Prop :=
 boxW bB t0 h fun t1 h =>
 runD (fitD bB (aD h t1)) h fun t5 h =>
 aQ false c (.fn (.func 86) [] []) [t5] h (fun t6 h =>
 runD (unD .not t6) h fun t7 h =>
 aW t7
 (K (.ret (.tup [(.sl true (.ints .i64 [])), (.int .i64 90)])) h)
 (runD (kC aM (.int .i64 16) (.int .i64 16) h.length) h fun t8 h =>
 runD (fitD bB (aD h t1)) h fun t12 h =>
 aQ false c.noS (.fn (.func 87) [] []) [t12] h (fun t13 h =>
 runD (aC bB t1 2) h fun t14 h =>
 runD (fitD aB (aD h t14)) h fun t15 h =>
 runD (aC bB t1 3) h fun t16 h =>
 runD (fitD aB (aD h t16)) h fun t17 h =>
 runD (aH aM h t8 (.int .i64 0)) h fun t18 h =>
 runH (aO aB h t18 t13) h fun _ h =>
 runD (aH aM h t8 (.int .i64 1)) h fun t19 h =>
 runH (aO aB h t19 t15) h fun _ h =>
 runD (aH aM h t8 (.int .i64 2)) h fun t20 h =>
 runH (aO aB h t20 t17) h fun _ h =>
 sepB t18 [t14] = true ∧ sepB t18 [t16] = true ∧ sepB t19 [t16] = true ∧ runD (dX aM h t8 (some (.int .i64 3)) none none) h fun t22 h =>
 runD (aC bB t1 4) h fun t23 h =>
 runD (fitD aM (aD h t23)) h fun t24 h =>
 runM (mD aM h t22 t24) h fun t25 h =>
 K (.ret (.tup [t8, (.int .i64 0)])) h)
 (fun _ _ => False)))
 (fun v h => K (.pan v) h)
def gE.loops : Nat → bX
 | 10 => ⟨[], [], [], [(2, none), (4, some [32, 36])], [], []⟩
 | _ => ⟨[], [], [], [], [], []⟩
def gE.H (c : Ctx) (t0 : AV) (h : List AObj) (K : AOut → List AObj → Prop) : Prop :=
 boxW bB t0 h fun t1 h =>
 aJ (fun (J1 : AV → List AObj → Prop) =>
 aJ (fun (J2 : List AObj → Prop) =>
 aJ (fun (J3 : List AObj → Prop) =>
 runD (aC bB t1 0) h fun t5 h =>
 runD (fitD aB (aD h t5)) h fun t6 h =>
 runD (binD aB .lss t6 (.int .i64 0)) h fun t7 h =>
 aJ (fun (J4 : AV → List AObj → Prop) =>
 aW t7
 (J4 t7 h)
 (runD (aC bB t1 0) h fun t8 h =>
 runD (fitD aB (aD h t8)) h fun t9 h =>
 runD (binD aB .gtr t9 (.int .i64 9)) h fun t10 h =>
 J4 t10 h))
 (fun t4 h => aW t4
 (J3 h)
 (runD (aC bB t1 1) h fun t12 h =>
 runD (fitD aB (aD h t12)) h fun t13 h =>
 runD (binD aB .lss t13 (.int .i64 0)) h fun t14 h =>
 aJ (fun (J5 : AV → List AObj → Prop) =>
 aW t14
 (J5 t14 h)
 (runD (aC bB t1 1) h fun t15 h =>
 runD (fitD aB (aD h t15)) h fun t16 h =>
 runD (binD aB .gtr t16 (.int .i64 1099511627776)) h fun t17 h =>
 J5 t17 h))
 (fun t11 h => aW t11
 (J3 h)
 (runD (aC bB t1 2) h fun t19 h =>
 runD (fitD aB (aD h t19)) h fun t20 h =>
 aQ false c (.fn (.func 105) [] []) [t20] h (fun t21 h =>
 runD (unD .not t21) h fun t22 h =>
 aJ (fun (J6 : AV → List AObj → Prop) =>
 aW t22
 (J6 t22 h)
 (runD (aC bB t1 3) h fun t23 h =>
 runD (fitD aB (aD h t23)) h fun t24 h =>
 aQ false c (.fn (.func 105) [] []) [t24] h (fun t25 h =>
 runD (unD .not t25) h fun t26 h =>
 aJ (fun (J7 : AV → List AObj → Prop) =>
 aW t26
 (J7 t26 h)
 (runD (aC bB t1 4) h fun t27 h =>
 runD (fitD aM (aD h t27)) h fun t28 h =>
 runD (lenD aM h t28) h fun t29 h =>
 runD (binD aB .gtr t29 (.int .i64 13)) h fun t30 h =>
 J7 t30 h))
 (fun t18 h => J6 t18 h))
 (fun v h => K (.pan v) h)))
 (fun t18 h => aW t18
 (J2 h)
 (J1 (.bool true) h)))
 (fun v h => K (.pan v) h))))))
 (fun h => J2 h))
 (fun h => J1 (.bool false) h))
 (fun t3 h => aJ (fun (J8 : AV → AV → List AObj → Prop) =>
 aT t3 true
 (runD (aC bB t1 4) h fun t33 h =>
 runD (fitD aM (aD h t33)) h fun t34 h =>
 aQ false c (.fn (.func 106) [] []) [t34, (.fn (.func 107) [] [])] h (fun t35 h =>
 runD (unD .not t35) h fun t36 h =>
 J8 (.bool true) t36 h)
 (fun v h => K (.pan v) h))
 (J8 (.bool false) .und h))
 (fun t32 t36 h => runD (bK t32 t36 (.bool false)) h fun t37 h =>
 K (.ret t37) h))
def gF.loops : Nat → bX
 | _ => ⟨[], [], [], [], [], []⟩
def gF.H (c : Ctx) (t0 : AV) (h : List AObj) (K : AOut → List AObj → Prop) : Prop :=
 boxW bB t0 h fun t1 h =>
 runD (aC bB t1 1) h fun t3 h =>
 runD (fitD aB (aD h t3)) h fun t4 h =>
 runD (binD aB .shl t4 (.int .u64 4)) h fun t5 h =>
 runD (binD aB .or (.int .i64 1152921504606846976) t5) h fun t6 h =>
 runD (aC bB t1 0) h fun t7 h =>
 runD (fitD aB (aD h t7)) h fun t8 h =>
 runD (binD aB .or t6 t8) h fun t9 h =>
 K (.ret t9) h
def eW.loops : Nat → bX
 | 1 => ⟨[], [], [], [(3, none), (2, some [5, 7])], [], []⟩
 | _ => ⟨[], [], [], [], [], []⟩
def eW.H (c : Ctx) (t0 : AV) (h : List AObj) (K : AOut → List AObj → Prop) : Prop :=
 runD (binD aB .geq t0 (.int .i64 0)) h fun t4 h =>
 aJ (fun (J1 : AV → AV → List AObj → Prop) =>
 aT t4 true
 (runD (binD aB .lss t0 (.int .i64 256)) h fun t7 h =>
 J1 (.bool true) t7 h)
 (J1 (.bool false) .und h))
 (fun t5 t7 h => runD (bK t5 t7 (.bool false)) h fun t8 h =>
 K (.ret t8) h)
def fB.loops : Nat → bX
 | 1 => ⟨[], [], [], [(3, none), (3, some [5, 8])], [], []⟩
 | _ => ⟨[], [], [], [], [], []⟩
def fB.H (c : Ctx) (t0 : AV) (h : List AObj) (K : AOut → List AObj → Prop) : Prop :=
 runD (binD aB .eql t0 (.int .i64 0)) h fun t4 h =>
 aJ (fun (J1 : AV → AV → List AObj → Prop) =>
 aT t4 false
 (aQ false c (.fn (.func 105) [] []) [t0] h (fun t7 h =>
 runD (unD .not t7) h fun t8 h =>
 J1 (.bool false) t8 h)
 (fun v h => K (.pan v) h))
 (J1 (.bool true) .und h))
 (fun t5 t8 h => runD (bK t5 (.bool true) t8) h fun t9 h =>
 K (.ret t9) h)
theorem cN.eq (F : List (FuncId × aE)) (S : List (FuncId × Con)) (t0 t1 : AV) (h : List AObj) (K : AOut → List AObj → Prop) : funW (ctx F S cN.loops) Tryz.f46 [t0, t1] h K = cN.H (ctx F S cN.loops) t0 t1 h K := by kernel_rfl
theorem fE.eq (F : List (FuncId × aE)) (S : List (FuncId × Con)) (t0 : AV) (h : List AObj) (K : AOut → List AObj → Prop) : funW (ctx F S fE.loops) Tryz.f57 [t0] h K = fE.H (ctx F S fE.loops) t0 h K := by kernel_rfl
theorem gE.eq (F : List (FuncId × aE)) (S : List (FuncId × Con)) (t0 : AV) (h : List AObj) (K : AOut → List AObj → Prop) : funW (ctx F S gE.loops) Tryz.f86 [t0] h K = gE.H (ctx F S gE.loops) t0 h K := by kernel_rfl
theorem gF.eq (F : List (FuncId × aE)) (S : List (FuncId × Con)) (t0 : AV) (h : List AObj) (K : AOut → List AObj → Prop) : funW (ctx F S gF.loops) Tryz.f87 [t0] h K = gF.H (ctx F S gF.loops) t0 h K := by kernel_rfl
theorem eW.eq (F : List (FuncId × aE)) (S : List (FuncId × Con)) (t0 : AV) (h : List AObj) (K : AOut → List AObj → Prop) : funW (ctx F S eW.loops) Tryz.f105 [t0] h K = eW.H (ctx F S eW.loops) t0 h K := by kernel_rfl
theorem fB.eq (F : List (FuncId × aE)) (S : List (FuncId × Con)) (t0 : AV) (h : List AObj) (K : AOut → List AObj → Prop) : funW (ctx F S fB.loops) Tryz.f107 [t0] h K = fB.H (ctx F S fB.loops) t0 h K := by kernel_rfl
theorem cN.at : Tryz.prog.funcs[46]? = some Tryz.f46 := by kernel_rfl
theorem cN.nm : (Tryz.f46.name == "runtime.NumGoroutine") = false := by kernel_rfl
theorem cN.bd : Tryz.f46.body.isNone = false := by kernel_rfl
theorem fE.at : Tryz.prog.funcs[57]? = some Tryz.f57 := by kernel_rfl
theorem fE.nm : (Tryz.f57.name == "runtime.NumGoroutine") = false := by kernel_rfl
theorem fE.bd : Tryz.f57.body.isNone = false := by kernel_rfl
theorem gE.at : Tryz.prog.funcs[86]? = some Tryz.f86 := by kernel_rfl
theorem gE.nm : (Tryz.f86.name == "runtime.NumGoroutine") = false := by kernel_rfl
theorem gE.bd : Tryz.f86.body.isNone = false := by kernel_rfl
theorem gF.at : Tryz.prog.funcs[87]? = some Tryz.f87 := by kernel_rfl
theorem gF.nm : (Tryz.f87.name == "runtime.NumGoroutine") = false := by kernel_rfl
theorem gF.bd : Tryz.f87.body.isNone = false := by kernel_rfl
theorem eW.at : Tryz.prog.funcs[105]? = some Tryz.f105 := by kernel_rfl
theorem eW.nm : (Tryz.f105.name == "runtime.NumGoroutine") = false := by kernel_rfl
theorem eW.bd : Tryz.f105.body.isNone = false := by kernel_rfl
theorem fB.at : Tryz.prog.funcs[107]? = some Tryz.f107 := by kernel_rfl
theorem fB.nm : (Tryz.f107.name == "runtime.NumGoroutine") = false := by kernel_rfl
theorem fB.bd : Tryz.f107.body.isNone = false := by kernel_rfl
end Lam
namespace Lam
open Go Go.Proofs
def dT.loops : Nat → bX
 | 1 => ⟨[], [], [], [(8, none), (5, some [14, 19])], [], []⟩
 | 6 => ⟨[28], [false], [1, 3, 4, 26, 27], [], [], []⟩
 | 8 => ⟨[], [], [], [(4, none), (5, some [35, 40]), (2, none), (9, some [42, 51])], [], []⟩
 | 10 => ⟨[], [], [], [(10, none), (3, some [62, 65])], [], []⟩
 | _ => ⟨[], [], [], [], [], []⟩
def dT.L1 (c : Ctx) (J2 : AV → AV → List AObj → Prop) (K : AOut → List AObj → Prop) (lv : List AV) (h0 : List AObj) (n0 : Nat) (c1 : AV) (c3 : AV) (c4 : AV) (c26 : AV) (c27 : AV) : Prop :=
 ∃ I : Nat → List AV → List AObj → Prop, (∃ n, I n lv h0) ∧ ∀ n h, ∀ t28, I n [t28] h →
 runD (binD aB .lss t28 c27) h fun t29 h =>
 aW t29
 (runD (aH cK h c26 t28) h fun t30 h =>
 runD (fitD cX (aD h t30)) h fun t31 h =>
 cP cX h fun t6 h =>
 runH (aO cX h t6 t31) h fun _ h =>
 runD (aC cX t6 0) h fun t32 h =>
 runD (fitD aB (aD h t32)) h fun t33 h =>
 runD (binD aB .lss t33 (.int .i64 0)) h fun t34 h =>
 aJ (fun (J3 : AV → AV → List AObj → Prop) =>
 aT t34 false
 (runD (aC cX t6 0) h fun t36 h =>
 runD (fitD aB (aD h t36)) h fun t37 h =>
 runD (lenD aM h c3) h fun t39 h =>
 runD (binD aB .geq t37 t39) h fun t40 h =>
 J3 (.bool false) t40 h)
 (J3 (.bool true) .und h))
 (fun t35 t40 h => runD (bK t35 (.bool true) t40) h fun t41 h =>
 aJ (fun (J4 : AV → AV → List AObj → Prop) =>
 aT t41 false
 (runD (aC cX t6 2) h fun t43 h =>
 runD (fitD mW (aD h t43)) h fun t44 h =>
 aJ (fun (J5 : AV → AV → List AObj → Prop) =>
 aT t44 true
 (runD (aC cX t6 0) h fun t47 h =>
 runD (fitD aB (aD h t47)) h fun t48 h =>
 runD (binD aB .quo t48 (.int .i64 8)) h fun t49 h =>
 runD (lW lY h c4 t49) h fun t50 h =>
 J5 (.bool true) t50 h)
 (J5 (.bool false) .und h))
 (fun t45 t50 h => runD (bK t45 t50 (.bool false)) h fun t51 h =>
 J4 (.bool false) t51 h))
 (J4 (.bool true) .und h))
 (fun t42 t51 h => runD (bK t42 (.bool true) t51) h fun t52 h =>
 aW t52
 (K (.ret (.bool false)) h)
 (runD (aC cX t6 0) h fun t54 h =>
 runD (fitD aB (aD h t54)) h fun t55 h =>
 runD (binD aB .quo t55 (.int .i64 8)) h fun t56 h =>
 runD (aC cX t6 0) h fun t58 h =>
 runD (fitD aB (aD h t58)) h fun t59 h =>
 runD (binD aB .quo t59 (.int .i64 8)) h fun t60 h =>
 runD (lW lY h c4 t60) h fun t61 h =>
 aJ (fun (J6 : AV → AV → List AObj → Prop) =>
 aT t61 false
 (runD (aC cX t6 2) h fun t63 h =>
 runD (fitD mW (aD h t63)) h fun t64 h =>
 runD (unD .not t64) h fun t65 h =>
 J6 (.bool false) t65 h)
 (J6 (.bool true) .und h))
 (fun t62 t65 h => runD (bK t62 (.bool true) t65) h fun t66 h =>
 runH (jQ lY h c4 t56 t66) h fun _ h =>
 runD (aC cX t6 0) h fun t68 h =>
 runD (fitD aB (aD h t68)) h fun t69 h =>
 runD (aC cX t6 1) h fun t70 h =>
 runD (fitD aB (aD h t70)) h fun t71 h =>
 runD (aH aM h c3 t69) h fun t72 h =>
 runH (aO aB h t72 t71) h fun _ h =>
 runD (binD aB .add t28 (.int .i64 1)) h fun t73 h =>
 (∃ m, m < n ∧ I m (AV.norms n0 h [t73]) (cJ n0 h)) ∧ AV.norms n0 h [c1, c3, c4, c26, c27] = [c1, c3, c4, c26, c27])))))
 (J2 c1 c3 h)
def dT.H (c : Ctx) (t0 : AV) (h : List AObj) (K : AOut → List AObj → Prop) : Prop :=
 boxW aN t0 h fun t1 h =>
 runD (aC aN t1 0) h fun t7 h =>
 runD (fitD aM (aD h t7)) h fun t8 h =>
 runD (lenD aM h t8) h fun t9 h =>
 runD (aC aN t1 1) h fun t10 h =>
 runD (fitD aM (aD h t10)) h fun t11 h =>
 runD (lenD aM h t11) h fun t12 h =>
 runD (binD aB .neq t9 t12) h fun t13 h =>
 aJ (fun (J1 : AV → AV → List AObj → Prop) =>
 aT t13 false
 (runD (aC aN t1 0) h fun t15 h =>
 runD (fitD aM (aD h t15)) h fun t16 h =>
 runD (lenD aM h t16) h fun t17 h =>
 aQ false c (.fn (.func 33) [] []) [t17] h (fun t18 h =>
 runD (unD .not t18) h fun t19 h =>
 J1 (.bool false) t19 h)
 (fun v h => K (.pan v) h))
 (J1 (.bool true) .und h))
 (fun t14 t19 h => runD (bK t14 (.bool true) t19) h fun t20 h =>
 aW t20
 (K (.ret (.bool false)) h)
 (runD (aC aN t1 1) h fun t21 h =>
 runD (fitD aM (aD h t21)) h fun t22 h =>
 aQ false c (.fn (.func 34) [] []) [t22] h (fun t23 h =>
 runD (kQ lY h.length) h fun t24 h =>
 runD (aC aN t1 2) h fun t25 h =>
 runD (fitD cK (aD h t25)) h fun t26 h =>
 runD (lenD cK h t26) h fun t27 h =>
 aJ (fun (J2 : AV → AV → List AObj → Prop) =>
 dC [false] [(.int .i64 0)] h fun lv h => dT.L1 c J2 K (AV.norms h.length h lv) (cJ h.length h) h.length (AV.norm h.length h t1) (AV.norm h.length h t23) (AV.norm h.length h t24) (AV.norm h.length h t26) (AV.norm h.length h t27))
 (fun t1 t3 h => runD (aC aN t1 0) h fun t75 h =>
 runD (fitD aM (aD h t75)) h fun t76 h =>
 aQ false c (.fn (.func 35) [] []) [t3, t76] h (fun t77 h =>
 K (.ret t77) h)
 (fun v h => K (.pan v) h)))
 (fun v h => K (.pan v) h)))
def fV.loops : Nat → bX
 | _ => ⟨[], [], [], [], [], []⟩
def fV.H (c : Ctx) (t0 : AV) (h : List AObj) (K : AOut → List AObj → Prop) : Prop :=
 cP aN h fun t2 h =>
 runD (lenD aM h t0) h fun t5 h =>
 aQ false c (.fn (.func 33) [] []) [t5] h (fun t6 h =>
 runD (unD .not t6) h fun t7 h =>
 aW t7
 (runD (gT aN []) h fun t8 h =>
 runH (aO aN h t2 t8) h fun _ h =>
 cT (fitD aN (aD h t2)) fun r0 => K (.ret (.tup [r0, (.int .i64 40)])) h)
 (aQ false c (.fn (.func 34) [] []) [t0] h (fun t10 h =>
 aQ false c (.fn (.func 34) [] []) [t0] h (fun t12 h =>
 runD (gT aN [(0, t10), (1, t12)]) h fun t13 h =>
 runH (aO aN h t2 t13) h fun _ h =>
 cT (fitD aN (aD h t2)) fun r0 => K (.ret (.tup [r0, (.int .i64 0)])) h)
 (fun v h => K (.pan v) h))
 (fun v h => K (.pan v) h)))
 (fun v h => K (.pan v) h)
def fF.loops : Nat → bX
 | 1 => ⟨[], [], [], [(3, none), (3, some [5, 8])], [], []⟩
 | _ => ⟨[], [], [], [], [], []⟩
def fF.H (c : Ctx) (t0 : AV) (h : List AObj) (K : AOut → List AObj → Prop) : Prop :=
 runD (binD aB .leq t0 (.int .i64 4096)) h fun t4 h =>
 aJ (fun (J1 : AV → AV → List AObj → Prop) =>
 aT t4 true
 (runD (binD aB .rem t0 (.int .i64 8)) h fun t7 h =>
 runD (binD aB .eql t7 (.int .i64 0)) h fun t8 h =>
 J1 (.bool true) t8 h)
 (J1 (.bool false) .und h))
 (fun t5 t8 h => runD (bK t5 t8 (.bool false)) h fun t9 h =>
 K (.ret t9) h)
def iG.loops : Nat → bX
 | _ => ⟨[], [], [], [], [], []⟩
def iG.H (c : Ctx) (t0 : AV) (t1 : AV) (t2 : AV) (h : List AObj) (K : AOut → List AObj → Prop) : Prop :=
 boxW aN t0 h fun t3 h =>
 cP aN h fun t6 h =>
 runD (fitD aN (aD h t3)) h fun t9 h =>
 aQ false c (.fn (.func 152) [] []) [t9, t1] h (fun t11 h =>
 runD (unD .not t11) h fun t12 h =>
 aW t12
 (runD (fitD aN (aD h t3)) h fun t13 h =>
 runH (aO aN h t6 t13) h fun _ h =>
 cT (fitD aN (aD h t6)) fun r0 => K (.ret (.tup [r0, (.int .i64 40)])) h)
 (runD (aC aN t3 0) h fun t14 h =>
 runD (fitD aM (aD h t14)) h fun t15 h =>
 runD (lenD aM h t15) h fun t16 h =>
 runD (kC aM t16 t16 h.length) h fun t17 h =>
 runD (aC aN t3 0) h fun t19 h =>
 runD (fitD aM (aD h t19)) h fun t20 h =>
 runM (mD aM h t17 t20) h fun t21 h =>
 runD (aH aM h t17 t1) h fun t25 h =>
 runH (aO aB h t25 t2) h fun _ h =>
 runD (aC aN t3 1) h fun t27 h =>
 runD (fitD aM (aD h t27)) h fun t28 h =>
 runD (aC aN t3 2) h fun t29 h =>
 runD (fitD cK (aD h t29)) h fun t30 h =>
 aQ false c.noS (.fn (.func 153) [] []) [t30] h (fun t31 h =>
 runD (gT cX [(0, t1), (1, t2)]) h fun t34 h =>
 runD (eN cK 1 [(0, t34)] h.length) h fun t35 h =>
 jC (fI cK h t31 t35 h.length) (fW cK h t31 t35) h fun t36 h =>
 runD (gT aN [(0, t17), (1, t28), (2, t36)]) h fun t37 h =>
 runH (aO aN h t6 t37) h fun _ h =>
 sepB t31 [t27] = true ∧ cT (fitD aN (aD h t6)) fun r0 => K (.ret (.tup [r0, (.int .i64 0)])) h)
 (fun _ _ => False)))
 (fun v h => K (.pan v) h)
def fX.loops : Nat → bX
 | _ => ⟨[], [], [], [], [], []⟩
def fX.H (c : Ctx) (t0 : AV) (t1 : AV) (h : List AObj) (K : AOut → List AObj → Prop) : Prop :=
 boxW aN t0 h fun t2 h =>
 cP aN h fun t4 h =>
 runD (fitD aN (aD h t2)) h fun t8 h =>
 runD (fitD aN (aD h t2)) h fun t9 h =>
 aQ false c.noS (.fn (.func 154) [] []) [t9, t1] h (fun t11 h =>
 aQ false c.noS (.fn (.func 152) [] []) [t8, t11] h (fun t12 h =>
 runD (unD .not t12) h fun t13 h =>
 aW t13
 (runD (fitD aN (aD h t2)) h fun t14 h =>
 runH (aO aN h t4 t14) h fun _ h =>
 cT (fitD aN (aD h t4)) fun r0 => K (.ret (.tup [r0, (.int .i64 40)])) h)
 (runD (aC aN t2 2) h fun t15 h =>
 runD (fitD cK (aD h t15)) h fun t16 h =>
 aQ false c (.fn (.func 155) [] []) [t16] h (fun t17 h =>
 cP cK h fun t6 h =>
 runH (aO cK h t6 t17) h fun _ h =>
 runD (fitD aN (aD h t2)) h fun t18 h =>
 aQ false c (.fn (.func 156) [] []) [t18, t1] h (fun t20 h =>
 aJ (fun (J1 : AV → AV → AV → List AObj → Prop) =>
 vI c.iterS t20 h
 (fun id r args h K => lpIs h id .ready r ∧ yM args fun t21 =>
 lpIs h id .ready r ∧
 runD (fitD cK (aD (List.set h id (.lp .busy none r)) t6)) (List.set h id (.lp .busy none r)) fun t22 h =>
 runD (aH cK h t22 t21) h fun t24 h =>
 runD (aC cX t24 2) h fun t25 h =>
 runH (aO mW h t25 (.bool true)) h fun _ h =>
 lpIs h id .busy r ∧ K (.ret (.bool true)) (List.set h id (.lp .ready none r)))
 (fun id r ao h => endX id r ao h
 (fun h => J1 t2 t4 t6 h)
 (fun h => cT (fitD aN (aD h t4)) fun r0 => K (.ret (.tup [r0, (.int .i64 0)])) h)
 (fun i h => aCD i 0 (J1 t2 t4 t6 h) (False))
 (fun l h => False)
 (fun v h => K (.pan v) h)))
 (fun t2 t4 t6 h => runD (fitD cK (aD h t6)) h fun t26 h =>
 runD (aC aN t2 2) h fun t27 h =>
 runH (aO cK h t27 t26) h fun _ h =>
 runD (fitD aN (aD h t2)) h fun t28 h =>
 runH (aO aN h t4 t28) h fun _ h =>
 cT (fitD aN (aD h t4)) fun r0 => K (.ret (.tup [r0, (.int .i64 0)])) h))
 (fun v h => K (.pan v) h))
 (fun v h => K (.pan v) h)))
 (fun _ _ => False))
 (fun _ _ => False)
def fY.loops : Nat → bX
 | _ => ⟨[], [], [], [], [], []⟩
def fY.H (c : Ctx) (t0 : AV) (h : List AObj) (K : AOut → List AObj → Prop) : Prop :=
 boxW aN t0 h fun t1 h =>
 cP aN h fun t2 h =>
 runD (fitD aN (aD h t1)) h fun t4 h =>
 aQ false c (.fn (.func 13) [] []) [t4] h (fun t5 h =>
 runD (unD .not t5) h fun t6 h =>
 aW t6
 (runD (fitD aN (aD h t1)) h fun t7 h =>
 runH (aO aN h t2 t7) h fun _ h =>
 cT (fitD aN (aD h t2)) fun r0 => K (.ret (.tup [r0, (.int .i64 40)])) h)
 (runD (fitD aN (aD h t1)) h fun t8 h =>
 aQ false c (.fn (.func 157) [] []) [t8, (.fn (.func 158) [] [])] h (fun t9 h =>
 runH (aO aN h t2 t9) h fun _ h =>
 cT (fitD aN (aD h t2)) fun r0 => K (.ret (.tup [r0, (.int .i64 0)])) h)
 (fun v h => K (.pan v) h)))
 (fun v h => K (.pan v) h)
def fG.loops : Nat → bX
 | 1 => ⟨[], [], [], [(3, none), (5, some [7, 12]), (2, none), (2, some [14, 16])], [], []⟩
 | _ => ⟨[], [], [], [], [], []⟩
def fG.H (c : Ctx) (t0 : AV) (t1 : AV) (h : List AObj) (K : AOut → List AObj → Prop) : Prop :=
 boxW aN t0 h fun t2 h =>
 runD (binD aB .geq t1 (.int .i64 0)) h fun t6 h =>
 aJ (fun (J1 : AV → AV → List AObj → Prop) =>
 aT t6 true
 (runD (aC aN t2 0) h fun t9 h =>
 runD (fitD aM (aD h t9)) h fun t10 h =>
 runD (lenD aM h t10) h fun t11 h =>
 runD (binD aB .lss t1 t11) h fun t12 h =>
 J1 (.bool true) t12 h)
 (J1 (.bool false) .und h))
 (fun t7 t12 h => runD (bK t7 t12 (.bool false)) h fun t13 h =>
 aJ (fun (J2 : AV → AV → List AObj → Prop) =>
 aT t13 true
 (runD (fitD aN (aD h t2)) h fun t15 h =>
 aQ false c (.fn (.func 13) [] []) [t15] h (fun t16 h =>
 J2 (.bool true) t16 h)
 (fun v h => K (.pan v) h))
 (J2 (.bool false) .und h))
 (fun t14 t16 h => runD (bK t14 t16 (.bool false)) h fun t17 h =>
 K (.ret t17) h))
def gG.loops : Nat → bX
 | 1 => ⟨[], [], [], [(3, none), (6, some [7, 13])], [], []⟩
 | _ => ⟨[], [], [], [], [], []⟩
def gG.H (c : Ctx) (t0 : AV) (t1 : AV) (h : List AObj) (K : AOut → List AObj → Prop) : Prop :=
 boxW aN t0 h fun t2 h =>
 runD (binD aB .lss t1 (.int .i64 0)) h fun t6 h =>
 aJ (fun (J1 : AV → AV → List AObj → Prop) =>
 aT t6 false
 (runD (aC aN t2 0) h fun t9 h =>
 runD (fitD aM (aD h t9)) h fun t10 h =>
 runD (lenD aM h t10) h fun t11 h =>
 runD (binD aB .quo t11 (.int .i64 8)) h fun t12 h =>
 runD (binD aB .geq t1 t12) h fun t13 h =>
 J1 (.bool false) t13 h)
 (J1 (.bool true) .und h))
 (fun t7 t13 h => runD (bK t7 (.bool true) t13) h fun t14 h =>
 aW t14
 (K (.ret (.int .i64 (-1))) h)
 (runD (binD aB .mul t1 (.int .i64 8)) h fun t16 h =>
 K (.ret t16) h))
def iQ.loops : Nat → bX
 | _ => ⟨[], [], [], [], [], []⟩
def iQ.H (c : Ctx) (t0 : AV) (t1 : AV) (h : List AObj) (K : AOut → List AObj → Prop) : Prop :=
 boxW aN t0 h fun t2 h =>
 boxW aB t1 h fun t3 h =>
 K (.ret (.fn (.func 159) [] [t2, t3])) h
def fJ.loops : Nat → bX
 | 3 => ⟨[17], [false], [1, 4, 5, 15, 16], [], [5], []⟩
 | _ => ⟨[], [], [], [], [], []⟩
def fJ.L1 (c : Ctx) (J1 : AV → AV → List AObj → Prop) (K : AOut → List AObj → Prop) (lv : List AV) (h0 : List AObj) (n0 : Nat) (c1 : AV) (c4 : AV) (c5 : AV) (c15 : AV) (c16 : AV) : Prop :=
 ∃ I : Nat → List AV → List AObj → Prop, (∃ n, I n lv h0) ∧ ∀ n h, ∀ t17, I n [t17] h →
 runD (binD aB .lss t17 c16) h fun t18 h =>
 aW t18
 (aJ (fun (J2 : List AObj → Prop) =>
 runD (aH cK h c15 t17) h fun t19 h =>
 runD (fitD cX (aD h t19)) h fun t20 h =>
 cP cX h fun t7 h =>
 runH (aO cX h t7 t20) h fun _ h =>
 runD (fitD cX (aD h t7)) h fun t22 h =>
 aQ false c c1 [t22] h (fun t23 h =>
 aW t23
 (runD (aC aN c5 1) h fun t24 h =>
 runD (fitD aM (aD h t24)) h fun t25 h =>
 runD (aC cX t7 0) h fun t26 h =>
 runD (fitD aB (aD h t26)) h fun t27 h =>
 runD (aC cX t7 1) h fun t28 h =>
 runD (fitD aB (aD h t28)) h fun t29 h =>
 runD (aH aM h t25 t27) h fun t30 h =>
 runH (aO aB h t30 t29) h fun _ h =>
 J2 h)
 (runD (aC aN c5 2) h fun t31 h =>
 runD (fitD cK (aD h t31)) h fun t32 h =>
 runD (fitD cX (aD h t7)) h fun t33 h =>
 runD (eN cK 1 [(0, t33)] h.length) h fun t34 h =>
 jC (fI cK h t32 t34 h.length) (fW cK h t32 t34) h fun t35 h =>
 runD (aC aN c5 2) h fun t36 h =>
 runH (aO cK h t36 t35) h fun _ h =>
 J2 h))
 (fun v h => K (.pan v) h))
 (fun h => runD (binD aB .add t17 (.int .i64 1)) h fun t37 h =>
 (∃ m, m < n ∧ I m (AV.norms n0 h [t37]) (cJ n0 h)) ∧ AV.norms n0 h [c1, c4, c5, c15, c16] = [c1, c4, c5, c15, c16]))
 (J1 c4 c5 h)
def fJ.H (c : Ctx) (t0 : AV) (t1 : AV) (h : List AObj) (K : AOut → List AObj → Prop) : Prop :=
 boxW aN t0 h fun t2 h =>
 cP aN h fun t4 h =>
 runD (aC aN t2 0) h fun t8 h =>
 runD (fitD aM (aD h t8)) h fun t9 h =>
 runD (aC aN t2 1) h fun t10 h =>
 runD (fitD aM (aD h t10)) h fun t11 h =>
 aQ false c.noS (.fn (.func 34) [] []) [t11] h (fun t12 h =>
 runD (gT aN [(0, t9), (1, t12)]) h fun t13 h =>
 cP aN h fun t5 h =>
 runH (aO aN h t5 t13) h fun _ h =>
 runD (aC aN t2 2) h fun t14 h =>
 runD (fitD cK (aD h t14)) h fun t15 h =>
 runD (lenD cK h t15) h fun t16 h =>
 aJ (fun (J1 : AV → AV → List AObj → Prop) =>
 dC [false] [(.int .i64 0)] (boxH [t5] h) fun lv h => fJ.L1 c J1 K (AV.norms h.length h lv) (cJ h.length h) h.length (AV.norm h.length h t1) (AV.norm h.length h t4) (AV.norm h.length h t5) (AV.norm h.length h t15) (AV.norm h.length h t16))
 (fun t4 t5 h => runD (fitD aN (aD h t5)) h fun t38 h =>
 runH (aO aN h t4 t38) h fun _ h =>
 cT (fitD aN (aD h t4)) fun r0 => K (.ret r0) h))
 (fun _ _ => False)
def eM.loops : Nat → bX
 | _ => ⟨[], [], [], [], [], []⟩
def eM.H (c : Ctx) (t0 : AV) (h : List AObj) (K : AOut → List AObj → Prop) : Prop :=
 boxW cX t0 h fun t1 h =>
 runD (aC cX t1 2) h fun t3 h =>
 runD (fitD mW (aD h t3)) h fun t4 h =>
 K (.ret t4) h
def fK.loops : Nat → bX
 | 1 => ⟨[9], [false], [0, 2, 7, 8], [], [], []⟩
 | 3 => ⟨[], [], [], [(6, none), (4, some [19, 23])], [], []⟩
 | _ => ⟨[], [], [], [], [], []⟩
def fK.L1 (c : Ctx) (J1 : List AObj → Prop) (K : AOut → List AObj → Prop) (lv : List AV) (h0 : List AObj) (n0 : Nat) (c0 : AV) (c2 : AV) (c7 : AV) (c8 : AV) : Prop :=
 ∃ I : Nat → List AV → List AObj → Prop, (∃ n, I n lv h0) ∧ ∀ n h, ∀ t9, I n [t9] h →
 runD (binD aB .lss t9 c8) h fun t10 h =>
 aW t10
 (runD (aH cK h c7 t9) h fun t12 h =>
 runD (fitD cX (aD h t12)) h fun t13 h =>
 cP cX h fun t5 h =>
 runH (aO cX h t5 t13) h fun _ h =>
 runD (aC cX t5 0) h fun t14 h =>
 runD (fitD aB (aD h t14)) h fun t15 h =>
 runD (binD aB .quo t15 (.int .i64 8)) h fun t16 h =>
 runD (fitD aB (aD h c2)) h fun t17 h =>
 runD (binD aB .eql t16 t17) h fun t18 h =>
 aJ (fun (J2 : AV → AV → List AObj → Prop) =>
 aT t18 true
 (aQ false c c0 [t9] h (fun t22 h =>
 runD (unD .not t22) h fun t23 h =>
 J2 (.bool true) t23 h)
 (fun v h => K (.pan v) h))
 (J2 (.bool false) .und h))
 (fun t19 t23 h => runD (bK t19 t23 (.bool false)) h fun t24 h =>
 aW t24
 (K (.ret (.tup [])) h)
 (runD (binD aB .add t9 (.int .i64 1)) h fun t25 h =>
 (∃ m, m < n ∧ I m (AV.norms n0 h [t25]) (cJ n0 h)) ∧ AV.norms n0 h [c0, c2, c7, c8] = [c0, c2, c7, c8])))
 (J1 h)
def fK.H (c : Ctx) (t0 : AV) (t1 : AV) (t2 : AV) (h : List AObj) (K : AOut → List AObj → Prop) : Prop :=
 runD (aC aN t1 2) h fun t6 h =>
 runD (fitD cK (aD h t6)) h fun t7 h =>
 runD (lenD cK h t7) h fun t8 h =>
 aJ (fun (J1 : List AObj → Prop) =>
 dC [false] [(.int .i64 0)] h fun lv h => fK.L1 c J1 K (AV.norms h.length h lv) (cJ h.length h) h.length (AV.norm h.length h t0) (AV.norm h.length h t2) (AV.norm h.length h t7) (AV.norm h.length h t8))
 (fun h => K (.ret (.tup [])) h)
theorem dT.eq (F : List (FuncId × aE)) (S : List (FuncId × Con)) (t0 : AV) (h : List AObj) (K : AOut → List AObj → Prop) : funW (ctx F S dT.loops) Tryz.f13 [t0] h K = dT.H (ctx F S dT.loops) t0 h K := by kernel_rfl
theorem fV.eq (F : List (FuncId × aE)) (S : List (FuncId × Con)) (t0 : AV) (h : List AObj) (K : AOut → List AObj → Prop) : funW (ctx F S fV.loops) Tryz.f28 [t0] h K = fV.H (ctx F S fV.loops) t0 h K := by kernel_rfl
theorem fF.eq (F : List (FuncId × aE)) (S : List (FuncId × Con)) (t0 : AV) (h : List AObj) (K : AOut → List AObj → Prop) : funW (ctx F S fF.loops) Tryz.f33 [t0] h K = fF.H (ctx F S fF.loops) t0 h K := by kernel_rfl
theorem iG.eq (F : List (FuncId × aE)) (S : List (FuncId × Con)) (t0 t1 t2 : AV) (h : List AObj) (K : AOut → List AObj → Prop) : funW (ctx F S iG.loops) Tryz.f148 [t0, t1, t2] h K = iG.H (ctx F S iG.loops) t0 t1 t2 h K := by kernel_rfl
theorem fX.eq (F : List (FuncId × aE)) (S : List (FuncId × Con)) (Is : List (FuncId × (Con → Con))) (t0 t1 : AV) (h : List AObj) (K : AOut → List AObj → Prop) : funW (ctxI F S Is fX.loops) Tryz.f149 [t0, t1] h K = fX.H (ctxI F S Is fX.loops) t0 t1 h K := by kernel_rfl
theorem fY.eq (F : List (FuncId × aE)) (S : List (FuncId × Con)) (t0 : AV) (h : List AObj) (K : AOut → List AObj → Prop) : funW (ctx F S fY.loops) Tryz.f150 [t0] h K = fY.H (ctx F S fY.loops) t0 h K := by kernel_rfl
theorem fG.eq (F : List (FuncId × aE)) (S : List (FuncId × Con)) (t0 t1 : AV) (h : List AObj) (K : AOut → List AObj → Prop) : funW (ctx F S fG.loops) Tryz.f152 [t0, t1] h K = fG.H (ctx F S fG.loops) t0 t1 h K := by kernel_rfl
theorem gG.eq (F : List (FuncId × aE)) (S : List (FuncId × Con)) (t0 t1 : AV) (h : List AObj) (K : AOut → List AObj → Prop) : funW (ctx F S gG.loops) Tryz.f154 [t0, t1] h K = gG.H (ctx F S gG.loops) t0 t1 h K := by kernel_rfl
theorem iQ.eq (F : List (FuncId × aE)) (S : List (FuncId × Con)) (t0 t1 : AV) (h : List AObj) (K : AOut → List AObj → Prop) : funW (ctx F S iQ.loops) Tryz.f156 [t0, t1] h K = iQ.H (ctx F S iQ.loops) t0 t1 h K := by kernel_rfl
theorem fJ.eq (F : List (FuncId × aE)) (S : List (FuncId × Con)) (t0 t1 : AV) (h : List AObj) (K : AOut → List AObj → Prop) : funW (ctx F S fJ.loops) Tryz.f157 [t0, t1] h K = fJ.H (ctx F S fJ.loops) t0 t1 h K := by kernel_rfl
theorem eM.eq (F : List (FuncId × aE)) (S : List (FuncId × Con)) (t0 : AV) (h : List AObj) (K : AOut → List AObj → Prop) : funW (ctx F S eM.loops) Tryz.f158 [t0] h K = eM.H (ctx F S eM.loops) t0 h K := by kernel_rfl
theorem fK.eq (F : List (FuncId × aE)) (S : List (FuncId × Con)) (l : Nat) (Y : Con) (t0 t1 t2 : AV) (h : List AObj) (K : AOut → List AObj → Prop) : funW ((ctx F S fK.loops).withY l Y) Tryz.f159 [t0, t1, t2] h K = fK.H ((ctx F S fK.loops).withY l Y) t0 t1 t2 h K := by kernel_rfl
theorem dT.at : Tryz.prog.funcs[13]? = some Tryz.f13 := by kernel_rfl
theorem dT.nm : (Tryz.f13.name == "runtime.NumGoroutine") = false := by kernel_rfl
theorem dT.bd : Tryz.f13.body.isNone = false := by kernel_rfl
theorem fV.at : Tryz.prog.funcs[28]? = some Tryz.f28 := by kernel_rfl
theorem fV.nm : (Tryz.f28.name == "runtime.NumGoroutine") = false := by kernel_rfl
theorem fV.bd : Tryz.f28.body.isNone = false := by kernel_rfl
theorem fF.at : Tryz.prog.funcs[33]? = some Tryz.f33 := by kernel_rfl
theorem fF.nm : (Tryz.f33.name == "runtime.NumGoroutine") = false := by kernel_rfl
theorem fF.bd : Tryz.f33.body.isNone = false := by kernel_rfl
theorem iG.at : Tryz.prog.funcs[148]? = some Tryz.f148 := by kernel_rfl
theorem iG.nm : (Tryz.f148.name == "runtime.NumGoroutine") = false := by kernel_rfl
theorem iG.bd : Tryz.f148.body.isNone = false := by kernel_rfl
theorem fX.at : Tryz.prog.funcs[149]? = some Tryz.f149 := by kernel_rfl
theorem fX.nm : (Tryz.f149.name == "runtime.NumGoroutine") = false := by kernel_rfl
theorem fX.bd : Tryz.f149.body.isNone = false := by kernel_rfl
theorem fY.at : Tryz.prog.funcs[150]? = some Tryz.f150 := by kernel_rfl
theorem fY.nm : (Tryz.f150.name == "runtime.NumGoroutine") = false := by kernel_rfl
theorem fY.bd : Tryz.f150.body.isNone = false := by kernel_rfl
theorem fG.at : Tryz.prog.funcs[152]? = some Tryz.f152 := by kernel_rfl
theorem fG.nm : (Tryz.f152.name == "runtime.NumGoroutine") = false := by kernel_rfl
theorem fG.bd : Tryz.f152.body.isNone = false := by kernel_rfl
theorem gG.at : Tryz.prog.funcs[154]? = some Tryz.f154 := by kernel_rfl
theorem gG.nm : (Tryz.f154.name == "runtime.NumGoroutine") = false := by kernel_rfl
theorem gG.bd : Tryz.f154.body.isNone = false := by kernel_rfl
theorem iQ.at : Tryz.prog.funcs[156]? = some Tryz.f156 := by kernel_rfl
theorem iQ.nm : (Tryz.f156.name == "runtime.NumGoroutine") = false := by kernel_rfl
theorem iQ.bd : Tryz.f156.body.isNone = false := by kernel_rfl
theorem fJ.at : Tryz.prog.funcs[157]? = some Tryz.f157 := by kernel_rfl
theorem fJ.nm : (Tryz.f157.name == "runtime.NumGoroutine") = false := by kernel_rfl
theorem fJ.bd : Tryz.f157.body.isNone = false := by kernel_rfl
theorem eM.at : Tryz.prog.funcs[158]? = some Tryz.f158 := by kernel_rfl
theorem eM.nm : (Tryz.f158.name == "runtime.NumGoroutine") = false := by kernel_rfl
theorem eM.bd : Tryz.f158.body.isNone = false := by kernel_rfl
theorem fK.at : Tryz.prog.funcs[159]? = some Tryz.f159 := by kernel_rfl
theorem fK.nm : (Tryz.f159.name == "runtime.NumGoroutine") = false := by kernel_rfl
theorem fK.bd : Tryz.f159.body.isNone = false := by kernel_rfl
end Lam
namespace Lam
open Go Go.Proofs
def fF.C : aE
 | [.int .i64 n] => some (false, pD True (.bool (szB n)))
 | _ => none
theorem fF.spec : bI Tryz.prog 33 fF.C := by
 refine bI.of (bR (F := []) (S := []) (by simp) (by simp) fF.loops) fF.at fF.nm fF.bd ?_
 intro vs b S v news e hS
 unfold fF.C at e
 split at e
 rotate_left
 · cases e
 cases e
 rw [fF.eq]
 unfold fF.H
 simp (maxSteps := 4000000) only [go_sem, reduceEqDiff, Nat.reduceLT, reduceAdd, reduceSub, reduceLeDiff, reduceReplicate, reduceToNat]
 exact ⟨fun _ => by decide, aG rfl rfl⟩

def bA.C : aE
 | [.sl _ (.ints .i64 l)] => some (true, some (roomy l.length, .sref false 0 0 0 l.length, [.row .own 0 (.ints .i64 l)]))
 | _ => none
theorem bA.spec : bI Tryz.prog 34 bA.C := by
 refine bI.of (bR (F := []) (S := []) (by simp) (by simp) bA.loops) bA.at bA.nm bA.bd ?_
 intro vs b S v news e hS
 unfold bA.C at e
 split at e
 rotate_left
 · cases e
 cases e
 rw [bA.eq]
 unfold bA.H
 simp (maxSteps := 4000000) only [go_sem, reduceEqDiff, Nat.reduceLT, reduceAdd, reduceSub, reduceLeDiff, reduceReplicate, reduceToNat]
 rename_i l
 intro b hb
 refine ⟨fun h => ?_, fun h => ⟨hS, vT rfl (by simp)⟩⟩
 have : l = [] := List.eq_nil_of_length_eq_zero (hb h)
 subst this
 exact aCj rfl
def bH.C : aE
 | [.sl _ (.pends l)] => some (true, some (roomy l.length, .sref false 0 0 0 l.length, [.row .own 0 (.pends l)]))
 | _ => none
theorem bH.spec : bI Tryz.prog 155 bH.C := by
 refine bI.of (bR (F := []) (S := []) (by simp) (by simp) bH.loops) bH.at bH.nm bH.bd ?_
 intro vs b S v news e hS
 unfold bH.C at e
 split at e
 rotate_left
 · cases e
 cases e
 rw [bH.eq]
 unfold bH.H
 simp (maxSteps := 4000000) only [go_sem, reduceEqDiff, Nat.reduceLT, reduceAdd, reduceSub, reduceLeDiff, reduceReplicate, reduceToNat]
 rename_i l
 intro b hb
 refine ⟨fun h => ?_, fun h => ⟨hS, vT rfl (by simp)⟩⟩
 have : l = [] := List.eq_nil_of_length_eq_zero (hb h)
 subst this
 exact aCj rfl
def bJ.C : aE
 | [.sl _ (.pends l)] => some (false, pD True (.sl true (.pends l)))
 | _ => none
theorem bJ.spec : bI Tryz.prog 153 bJ.C := by
 refine bI.of (bR (F := []) (S := []) (by simp) (by simp) bJ.loops) bJ.at bJ.nm bJ.bd ?_
 intro vs b S v news e hS
 unfold bJ.C at e
 split at e
 rotate_left
 · cases e
 cases e
 rw [bJ.eq]
 unfold bJ.H
 simp (maxSteps := 4000000) only [go_sem, reduceEqDiff, Nat.reduceLT, reduceAdd, reduceSub, reduceLeDiff, reduceReplicate, reduceToNat]
 exact ⟨by omega, aKx rfl⟩
def bU.C : aE
 | [.sl _ (.ints .i64 a), .sl _ (.ints .i64 b)] => some (false, pD (roomy a.length) (.bool (decide (a = b))))
 | _ => none
theorem bU.spec : bI Tryz.prog 35 bU.C := by
 refine bI.of (bR (F := []) (S := []) (by simp) (by simp) bU.loops) bU.at bU.nm bU.bd ?_
 intro vs b S v news e hS
 unfold bU.C at e
 split at e
 rotate_left
 · cases e
 cases e
 rw [bU.eq]
 unfold bU.H
 simp (maxSteps := 4000000) only [go_sem, reduceEqDiff, Nat.reduceLT, reduceAdd, reduceSub, reduceLeDiff, reduceReplicate, reduceToNat]
 rename_i a _ b
 unfold roomy at hS
 refine ⟨fun hne => ?_, fun heq => ?_⟩
 · have : decide (a = b) = false := by rw [decide_eq_false_iff_not]; rintro rfl; exact hne rfl
   rw [this]; exact aG rfl rfl
 rw [aA]
 unfold bU.L1
 have hlen : a.length = b.length := by omega
 refine ⟨fun m lv h' => ∃ k : Nat, k + m = a.length ∧ lv = [.int .i64 k] ∧ h' = [] ∧ ∀ i, i < k → a.getD i 0 = b.getD i 0, ⟨a.length, 0, by omega, rfl, rfl, fun i hi => by omega⟩, ?_⟩
 rintro m h' t8 ⟨k, hk, hlv, rfl, hall⟩
 simp only [List.cons.injEq, and_true] at hlv
 subst hlv
 simp only [go_sem, reduceEqDiff, Nat.reduceLT, reduceAdd, reduceSub, reduceLeDiff, reduceReplicate, reduceToNat]
 refine ⟨fun hlt => ⟨by omega, by omega, fun h0 => ?_, fun h0 => ?_⟩, fun hge => ?_⟩
 · have : decide (a = b) = false := by rw [decide_eq_false_iff_not]; rintro rfl; exact h0 rfl
   rw [this]; exact aG rfl rfl
 · refine ⟨m - 1, by omega, k + 1, by omega, by rw [w64 (by omega) (by omega)]; rfl, ?_⟩
   intro i hi
   by_cases e : i = k
   · subst e; exact h0
   · exact hall i (by omega)
 · have : a = b := by
     apply List.ext_getElem hlen
     intro i h1 h2
     have := hall i (by omega)
     rw [List.getD_eq_getElem?_getD, List.getD_eq_getElem?_getD, List.getElem?_eq_getElem h1, List.getElem?_eq_getElem h2] at this
     exact this
   rw [decide_eq_true this]; exact aG rfl rfl

def dT.C : aE
 | [.agg [.sl false (.ints .i64 vol), .sl false (.ints .i64 per), .sl false (.pends pend)]] => some (false, pD (mB vol per pend) (.bool (nI vol per pend)))
 | _ => none
theorem dT.spec : bI Tryz.prog 13 dT.C := by
 refine bI.of (bR (F := [(33, fF.C), (34, bA.C), (35, bU.C)]) (S := []) (by simpa using ⟨fF.spec, bA.spec, bU.spec⟩) (by simp) dT.loops) dT.at dT.nm dT.bd ?_
 intro vs b S v news e hS
 unfold dT.C at e
 split at e
 rotate_left
 · cases e
 cases e
 rw [dT.eq]
 unfold dT.H
 simp (maxSteps := 4000000) only [go_sem, reduceEqDiff, Nat.reduceLT, reduceAdd, reduceSub, reduceLeDiff, reduceReplicate, reduceToNat, fF.C, bA.C, bU.C]
 rename_i vol per pend
 obtain ⟨r1, r2, r3⟩ := hS
 unfold roomy at r1 r2 r3
 refine ⟨fun hb => ?_, fun hb => ⟨r2, ?_⟩⟩
 · have : nI vol per pend = false := by
     unfold nI
     rw [Bool.or_eq_true] at hb
     rcases hb with hb | hb
     · have : ¬ vol.length = per.length := by
         intro h; rw [h] at hb; simp at hb
       simp [this]
     · have : szB vol.length = false := by simpa using hb
       simp [this]
   rw [this]; exact aG rfl rfl
 rw [Bool.or_eq_false_iff] at hb
 have hlen : vol.length = per.length := by
   have := hb.1
   rw [Bool.not_eq_false', decide_eq_true_eq] at this
   omega
 have hsz : szB vol.length = true := by simpa using hb.2
 have hcheck : nI vol per pend = decide (chk pend per (fun _ => false) = some vol) := by unfold nI; rw [hsz, decide_eq_true hlen]; simp
 rw [hcheck, aA]
 unfold dT.L1
 refine ⟨fun m lv h' => ∃ (k : Nat) (l : List Int) (o : Int → Bool), k + m = pend.length ∧ lv = [.int .i64 k] ∧ l.length = per.length ∧ chk pend per (fun _ => false) = chk (pend.drop k) l o ∧
     h' = [.box (.agg [.sl false (.ints .i64 vol), .sl false (.ints .i64 per), .sl false (.pends pend)]), .row .own 0 (.ints .i64 l), .map (.ib o)],
   ⟨pend.length, 0, per, fun _ => false, by omega, rfl, rfl, rfl, rfl⟩, ?_⟩
 rintro m h' t28 ⟨k, l, o, hk, hlv, hll, hchk, rfl⟩
 simp only [List.cons.injEq, and_true] at hlv
 subst hlv
 simp only [go_sem, reduceEqDiff, Nat.reduceLT, reduceAdd, reduceSub, reduceLeDiff, reduceReplicate, reduceToNat, hll, aAX]
 refine ⟨fun hlt => ⟨by omega, ?_⟩, fun hge => ?_⟩
 · have hkl : k < pend.length := by omega
   have hd : pend.drop k = pend.getD k ⟨0, 0, false⟩ :: pend.drop (k + 1) := by
     rw [List.getD_eq_getElem?_getD, List.getElem?_eq_getElem hkl, List.drop_eq_getElem_cons hkl]; rfl
   generalize pend.getD k ⟨0, 0, false⟩ = p at *
   have hch : chk (pend.drop k) l o = match badB p l.length o with
     | true => none
     | false => chk (pend.drop (k + 1)) (l.set p.at_.toNat p.val) (zC p o) := by rw [hd]; rfl
   rw [hll] at hch
   refine ⟨fun _ _ => by decide, fun hbad => ?_, fun hok => ?_⟩
   · have : badB p per.length o = true := hbad
     rw [this] at hch
     rw [hchk, hch]; exact aG rfl rfl
   · have hb2 : badB p per.length o = false := hok
     rw [hb2] at hch
     simp only [badB, Bool.or_eq_false_iff, decide_eq_false_iff_not] at hb2
     refine ⟨by decide, by decide, by omega, by omega, m - 1, by omega, k + 1, _, zC p o, by omega, by rw [w64 (by omega) (by omega)]; rfl, ?_, by rw [hchk]; exact hch, rfl⟩
     rw [List.length_set]; exact hll
 · have : k = pend.length := by omega
   subst this
   rw [List.drop_length] at hchk
   have hl : l.take per.length = l := List.take_of_length_le (by omega)
   simp only [hl, go_sem, reduceEqDiff, Nat.reduceLT, reduceAdd, reduceSub, reduceLeDiff, reduceReplicate, reduceToNat, bU.C]
   refine ⟨by unfold roomy; omega, ?_⟩
   rw [hchk]
   have : decide (chk [] l o = some vol) = decide (l = vol) := by simp [chk]
   rw [this]; exact aG rfl rfl
def fG.C : aE
 | [.agg [.sl false (.ints .i64 vol), .sl false (.ints .i64 per), .sl false (.pends pend)], .int .i64 at_] => some (false, pD (mB vol per pend) (.bool (mU vol per pend at_)))
 | _ => none
theorem fG.spec : bI Tryz.prog 152 fG.C := by
 refine bI.of (bR (F := [(13, dT.C)]) (S := []) (by simpa using dT.spec) (by simp) fG.loops) fG.at fG.nm fG.bd ?_
 intro vs b S v news e hS
 unfold fG.C at e
 split at e
 rotate_left
 · cases e
 cases e
 rw [fG.eq]
 unfold fG.H
 simp (maxSteps := 4000000) only [go_sem, reduceEqDiff, Nat.reduceLT, reduceAdd, reduceSub, reduceLeDiff, reduceReplicate, reduceToNat, dT.C]
 exact ⟨fun _ => hS, aG rfl rfl⟩
def gG.C : aE
 | [.agg [.sl false (.ints .i64 vol), .sl false (.ints .i64 per), .sl false (.pends pend)], .int .i64 line] => some (false, pD (roomy vol.length) (.int .i64 (oY vol line)))
 | _ => none
theorem gG.spec : bI Tryz.prog 154 gG.C := by
 refine bI.of (bR (F := []) (S := []) (by simp) (by simp) gG.loops) gG.at gG.nm gG.bd ?_
 intro vs b S v news e hS
 unfold gG.C at e
 split at e
 rotate_left
 · cases e
 cases e
 rw [gG.eq]
 unfold gG.H
 simp (maxSteps := 4000000) only [go_sem, reduceEqDiff, Nat.reduceLT, reduceAdd, reduceSub, reduceLeDiff, reduceReplicate, reduceToNat]
 rename_i vol per pend line
 unfold roomy at hS
 have e : IntKind.i64.wrap ((vol.length : Int).tdiv 8) = ((vol.length / 8 : Nat) : Int) := by rw [aMD]; exact w64 (by omega) (by omega)
 rw [e]
 refine ⟨fun _ => by decide, fun hb => ?_, fun hb => ?_⟩
 · unfold oY; rw [if_pos hb]; exact aG rfl rfl
 · have h2 := hb
   rw [Bool.or_eq_false_iff, decide_eq_false_iff_not, decide_eq_false_iff_not] at h2
   rw [w64 (by omega) (by omega)]
   unfold oY; rw [hb]; exact aG rfl rfl
def iG.C : aE
 | [.agg [.sl false (.ints .i64 vol), .sl false (.ints .i64 per), .sl false (.pends pend)], .int .i64 at_, .int .i64 val] => some (false, pD (mB vol per pend ∧ roomy (pend.length + 1)) (putM vol per pend at_ val))
 | _ => none
theorem iG.spec : bI Tryz.prog 148 iG.C := by
 refine bI.of (bR (F := [(152, fG.C), (153, bJ.C)]) (S := []) (by simpa using ⟨fG.spec, bJ.spec⟩) (by simp) iG.loops) iG.at iG.nm iG.bd ?_
 intro vs b S v news e hS
 unfold iG.C at e
 split at e
 rotate_left
 · cases e
 cases e
 rw [iG.eq]
 unfold iG.H
 simp (maxSteps := 4000000) only [go_sem, reduceEqDiff, Nat.reduceLT, reduceAdd, reduceSub, reduceLeDiff, reduceReplicate, reduceToNat, fG.C, bJ.C]
 rename_i vol per pend at_ val
 obtain ⟨hS, hr⟩ := hS
 refine ⟨hS, fun hb => ?_, fun hb => ?_⟩
 · unfold putM; rw [hb]; exact aG rfl rfl
 · have hp : 0 ≤ at_ ∧ at_ < (vol.length : Int) := by
     simp only [mU, Bool.and_eq_true, decide_eq_true_eq] at hb
     exact hb.1
   have e : vol ++ List.take (vol.length - min vol.length vol.length) (List.drop (min vol.length vol.length) (List.replicate vol.length 0)) = vol := by simp
   rw [e]
   have hl : (pend ++ [(⟨at_, val, false⟩ : Pend)]).length = pend.length + 1 := by simp
   rw [hl]
   refine ⟨⟨by omega, by omega, hS.1⟩, hp, by omega, hr, rfl, ?_⟩
   unfold putM
   simp only [hb, if_true]
   refine aG ?_ rfl
   have t1 : (vol.set at_.toNat val).take vol.length = vol.set at_.toNat val := List.take_of_length_le (by simp)
   have t2 : (pend ++ [(⟨at_, val, false⟩ : Pend)]).take (pend.length + 1) = pend ++ [(⟨at_, val, false⟩ : Pend)] := List.take_of_length_le (by simp)
   simp only [go_sem, reduceEqDiff, Nat.reduceLT, reduceAdd, reduceSub, reduceLeDiff, reduceReplicate, reduceToNat, memV, t1, t2]
def fK.I : Con → Con := fun Y args h K => match args with
 | [.fn (.yield l) [] [], a0, a1] => fK.H ((ctx [] [] fK.loops).withY l Y) (.fn (.yield l) [] []) a0 a1 h K
 | _ => False
theorem fK.spec : qK Tryz.prog 159 fK.I := by
 refine qK.of (bR (F := []) (S := []) (by simp) (by simp) fK.loops).toOkI fK.at fK.nm fK.bd ?_
 intro Yc l cap h K hC
 unfold fK.I at hC
 split at hC
 · rename_i e
   simp only [List.cons.injEq, AV.fn.injEq, Fn.yield.injEq, and_true, true_and] at e
   obtain ⟨rfl, rfl⟩ := e
   rw [fK.eq]; exact hC
 · exact hC.elim
def iQ.K : Con := fun args h K => match args with
 | [a0, a1] => iQ.H (ctx [] [] iQ.loops) a0 a1 h K
 | _ => False
theorem iQ.spec : dH Tryz.prog 156 iQ.K := by
 refine dH.of (bR (F := []) (S := []) (by simp) (by simp) iQ.loops) iQ.at iQ.nm iQ.bd ?_
 intro args h K hC
 unfold iQ.K at hC
 split at hC
 · rw [iQ.eq]; exact hC
 · exact hC.elim
def fX.C : aE
 | [.agg [.sl false (.ints .i64 vol), .sl false (.ints .i64 per), .sl false (.pends pend)], .int .i64 line] => some (false, pD (mB vol per pend) (aAz vol per pend line))
 | _ => none
theorem fX.spec : bI Tryz.prog 149 fX.C := by
 refine bI.of (aBm (F := [(152, fG.C), (154, gG.C), (155, bH.C)]) (S := [(156, iQ.K)]) (Is := [(159, fK.I)]) (by simpa using ⟨fG.spec, gG.spec, bH.spec⟩) (by simpa using iQ.spec) (by simpa using fK.spec) fX.loops) fX.at fX.nm fX.bd ?_
 intro vs b S v news e hS
 unfold fX.C at e
 split at e
 rotate_left
 · cases e
 cases e
 rw [fX.eq]
 unfold fX.H
 simp (maxSteps := 4000000) only [go_sem, reduceEqDiff, Nat.reduceLT, reduceAdd, reduceSub, reduceLeDiff, reduceReplicate, reduceToNat, fG.C, gG.C, bH.C, iQ.K, iQ.H, fK.I, fK.H, aA]
 rename_i vol per pend line
 refine ⟨hS.1, hS, fun hb => ?_, fun hb => ⟨hS.2.2, ?_⟩⟩
 · unfold aAz; rw [hb]; exact aG rfl rfl
 intro l r
 obtain ⟨s1, s2, s3⟩ := hS
 unfold roomy at s1 s2 s3
 unfold fK.L1
 refine ⟨fun m lv h' => ∃ k : Nat, k + m = pend.length ∧ lv = [.int .i64 k] ∧ h' = [.box (.agg [.sl false (.ints .i64 vol), .sl false (.ints .i64 per), .sl false (.pends pend)]),
     .box (.agg [.sl false (.ints .i64 []), .sl false (.ints .i64 []), .sl false (.pends [])]), .row .own 0 (.pends (gM line (pend.take k) ++ pend.drop k)), .box (.sref false 2 0 0 pend.length),
     .box (.agg [.sl false (.ints .i64 vol), .sl false (.ints .i64 per), .sl false (.pends pend)]), .box (.int .i64 line), .lp .ready none r],
   ⟨pend.length, 0, by omega, rfl, rfl⟩, ?_⟩
 rintro m h' t9 ⟨k, hk, hlv, rfl⟩
 simp only [List.cons.injEq, and_true] at hlv
 subst hlv
 have hlen : (gM line (pend.take k) ++ pend.drop k).length = pend.length := by simp [gM]; omega
 simp only [go_sem, reduceEqDiff, Nat.reduceLT, reduceAdd, reduceSub, reduceLeDiff, reduceReplicate, reduceToNat, aAX, hlen]
 refine ⟨fun hlt => ?_, fun hge => ?_⟩
 · have hkl : k < pend.length := by omega
   have hget : (gM line (pend.take k) ++ pend.drop k).getD k ⟨0, 0, false⟩ = pend.getD k ⟨0, 0, false⟩ := by
     rw [List.getD_eq_getElem?_getD, List.getElem?_append_right (by simp [gM]; omega)]
     have e : k - (gM line (pend.take k)).length = 0 := by simp [gM]; omega
     rw [e, List.getElem?_drop, Nat.add_zero, List.getD_eq_getElem?_getD]
   have hdrop : pend.drop k = pend.getD k ⟨0, 0, false⟩ :: pend.drop (k + 1) := by
     rw [List.getD_eq_getElem?_getD, List.getElem?_eq_getElem hkl, List.drop_eq_getElem_cons hkl]; rfl
   have hset : ∀ q : Pend, (gM line (pend.take k) ++ pend.drop k).set k q = gM line (pend.take k) ++ q :: pend.drop (k + 1) := by
     intro q
     rw [hdrop, List.set_append_right _ _ (by simp [gM]; omega)]
     have e : k - (gM line (pend.take k)).length = 0 := by simp [gM]; omega
     rw [e]; rfl
   have hnx : gM line (pend.take (k + 1)) = gM line (pend.take k) ++ [if gY (pend.getD k ⟨0, 0, false⟩).at_ = line then { pend.getD k ⟨0, 0, false⟩ with fl := true } else pend.getD k ⟨0, 0, false⟩] := by
     rw [gQ pend k ⟨0, 0, false⟩ hkl]
     simp [gM]
   rw [aA]
   simp only [oH, hget, hset]
   refine ⟨by omega, by decide, fun hc => ?_, fun hc => ?_⟩
   · have hc : gY (pend.getD k ⟨0, 0, false⟩).at_ = line := by simpa [gY] using hc
     simp only [go_sem, reduceEqDiff, Nat.reduceLT, reduceAdd, reduceSub, reduceLeDiff, reduceReplicate, reduceToNat]
     refine ⟨⟨by omega, by omega⟩, hkl, m - 1, by omega, k + 1, by omega, by rw [w64 (by omega) (by omega)]; rfl, ?_⟩
     rw [hnx, if_pos hc, List.append_assoc]; rfl
   · have hc : ¬ gY (pend.getD k ⟨0, 0, false⟩).at_ = line := by simpa [gY] using hc
     simp only [go_sem, reduceEqDiff, Nat.reduceLT, reduceAdd, reduceSub, reduceLeDiff, reduceReplicate, reduceToNat]
     refine ⟨m - 1, by omega, k + 1, by omega, by rw [w64 (by omega) (by omega)]; rfl, ?_⟩
     rw [hnx, if_neg hc, List.append_assoc, hdrop]; rfl
 · have : k = pend.length := by omega
   subst this
   rw [List.take_length, List.drop_length, List.append_nil] at hlen
   have e : gM line (pend.take pend.length) ++ pend.drop pend.length = gM line pend := by rw [List.take_length, List.drop_length, List.append_nil]
   rw [e]
   unfold aAz
   simp only [hb, if_true]
   refine aG ?_ rfl
   have t1 : (gM line pend).take pend.length = gM line pend := List.take_of_length_le (by omega)
   simp only [go_sem, reduceEqDiff, Nat.reduceLT, reduceAdd, reduceSub, reduceLeDiff, reduceReplicate, reduceToNat, memV, t1]
def eM.C : aE
 | [.agg [.int .i64 a, .int .i64 v, .bool f]] => some (false, pD True (.bool f))
 | _ => none
theorem eM.spec : bI Tryz.prog 158 eM.C := by
 refine bI.of (bR (F := []) (S := []) (by simp) (by simp) eM.loops) eM.at eM.nm eM.bd ?_
 intro vs b S v news e hS
 unfold eM.C at e
 split at e
 rotate_left
 · cases e
 cases e
 rw [eM.eq]
 unfold eM.H
 simp (maxSteps := 4000000) only [go_sem, reduceEqDiff, Nat.reduceLT, reduceAdd, reduceSub, reduceLeDiff, reduceReplicate, reduceToNat]
 exact aG rfl rfl
def fJ.K : Con := fun args h K => match args with
 | [a0, a1] => fJ.H (ctx [(34, bA.C), (158, eM.C)] [] fJ.loops) a0 a1 h K
 | _ => False
theorem fJ.spec : dH Tryz.prog 157 fJ.K := by
 refine dH.of (bR (F := [(34, bA.C), (158, eM.C)]) (S := []) (by simpa using ⟨bA.spec, eM.spec⟩) (by simp) fJ.loops) fJ.at fJ.nm fJ.bd ?_
 intro args h K hC
 unfold fJ.K at hC
 split at hC
 · rw [fJ.eq]; exact hC
 · exact hC.elim

def fY.C : aE
 | [.agg [.sl false (.ints .i64 vol), .sl false (.ints .i64 per), .sl false (.pends pend)]] => some (false, pD (mB vol per pend) (aDu fFl (nI vol per pend) vol per pend))
 | _ => none
theorem fY.spec : bI Tryz.prog 150 fY.C := by
 refine bI.of (bR (F := [(13, dT.C)]) (S := [(157, fJ.K)]) (by simpa using dT.spec) (by simpa using fJ.spec) fY.loops) fY.at fY.nm fY.bd ?_
 intro vs b S v news e hS
 unfold fY.C at e
 split at e
 rotate_left
 · cases e
 cases e
 rw [fY.eq]
 unfold fY.H
 simp (maxSteps := 4000000) only [go_sem, reduceEqDiff, Nat.reduceLT, reduceAdd, reduceSub, reduceLeDiff, reduceReplicate, reduceToNat, dT.C, fJ.K, fJ.H, bA.C]
 rename_i vol per pend
 refine ⟨hS, fun hb => ?_, fun hb => ⟨hS.2.1, ?_⟩⟩
 · unfold aDu; rw [hb]; exact aG rfl rfl
 obtain ⟨s1, s2, s3⟩ := hS
 unfold roomy at s1 s2 s3
 have hrange := aHH hb
 rw [aA]
 unfold fJ.L1
 refine ⟨fun m lv h' => ∃ k v : Nat, k + m = pend.length ∧ lv = [.int .i64 k] ∧ h' = [.box (.agg [.sl false (.ints .i64 vol), .sl false (.ints .i64 per), .sl false (.pends pend)]), .box (.agg [.sl false (.ints .i64 []), .sl false (.ints .i64 []), .sl false (.pends [])]), .box (.agg [.sl false (.ints .i64 vol), .sl false (.ints .i64 per), .sl false (.pends pend)]), .box (.agg [.sl false (.ints .i64 []), .sl false (.ints .i64 []), .sl false (.pends [])]), .row .own 0 (.ints .i64 (lG fFl (pend.take k) per)), .box (.agg [.sl false (.ints .i64 vol), .sref false 4 0 0 per.length, .sref false 6 v 0 (mF fFl (pend.take k)).length]), .row .own v (.pends (mF fFl (pend.take k)))],
   ⟨pend.length, 0, 0, by omega, rfl, rfl⟩, ?_⟩
 rintro m h' t17 ⟨k, v, hk, hlv, rfl⟩
 simp only [List.cons.injEq, and_true] at hlv
 subst hlv
 have hwl : (lG fFl (pend.take k) per).length = per.length := aAA _ _ _
 have hpl : (mF fFl (pend.take k)).length ≤ k := Nat.le_trans (List.length_filter_le _ _) (by simp; omega)
 simp only [go_sem, reduceEqDiff, Nat.reduceLT, reduceAdd, reduceSub, reduceLeDiff, reduceReplicate, reduceToNat, aAX, hwl, eM.C]
 refine ⟨fun hlt => ?_, fun hge => ?_⟩
 · have hkl : k < pend.length := by omega
   have hr := hrange _ (lK pend k ⟨0, 0, false⟩ hkl)
   have hW := aDt fFl (pend.getD k ⟨0, 0, false⟩) (pend.take k) per
   have hP := aJg fFl (pend.getD k ⟨0, 0, false⟩) (pend.take k)
   rw [← gQ pend k ⟨0, 0, false⟩ hkl] at hW hP
   generalize pend.getD k ⟨0, 0, false⟩ = p at *
   try rw [aA]
   refine ⟨by omega, fun hc => ?_, fun hc => ?_⟩
   · have hc : fFl p = true := hc
     rw [hc] at hW hP
     simp only [go_sem, reduceEqDiff, Nat.reduceLT, reduceAdd, reduceSub, reduceLeDiff, reduceReplicate, reduceToNat]
     refine ⟨hr, by omega, m - 1, by omega, k + 1, v, by omega, by rw [w64 (by omega) (by omega)]; rfl, ?_⟩
     rw [hW, hP]
   · have hc : fFl p = false := hc
     rw [hc] at hW hP
     simp only [go_sem, reduceEqDiff, Nat.reduceLT, reduceAdd, reduceSub, reduceLeDiff, reduceReplicate, reduceToNat]
     refine ⟨by unfold roomy; simp; omega, m - 1, by omega, k + 1, v + 1, by omega, by rw [w64 (by omega) (by omega)]; rfl, ?_⟩
     rw [hW, hP]
 · have : k = pend.length := by omega
   subst this
   rw [List.take_length] at hwl hpl ⊢
   have t1 : (lG fFl pend per).take per.length = lG fFl pend per := List.take_of_length_le (by omega)
   have t2 : (mF fFl pend).take (mF fFl pend).length = mF fFl pend := List.take_length
   unfold aDu
   simp only [hb, if_true, go_sem, reduceEqDiff, Nat.reduceLT, reduceAdd, reduceSub, reduceLeDiff, reduceReplicate, reduceToNat]
   refine aG ?_ rfl
   simp only [go_sem, reduceEqDiff, Nat.reduceLT, reduceAdd, reduceSub, reduceLeDiff, reduceReplicate, reduceToNat, memV, t1, t2]

end Lam
namespace Lam
open Go Go.Proofs
def fA.C : aE
 | [.int .i64 n] => some (false, pD True (.bool (lt1 n)))
 | _ => none
theorem fA.spec : bI Tryz.prog 103 fA.C := by
 refine bI.of (bR (F := []) (S := []) (by simp) (by simp) fA.loops) fA.at fA.nm fA.bd ?_
 intro vs b S v news e hS
 unfold fA.C at e
 split at e
 rotate_left
 · cases e
 cases e
 rw [fA.eq]
 unfold fA.H
 simp (maxSteps := 4000000) only [go_sem, reduceEqDiff, Nat.reduceLT, reduceAdd, reduceSub, reduceLeDiff, reduceReplicate, reduceToNat]
 exact aG rfl rfl
def eW.C : aE
 | [.int .i64 n] => some (false, pD True (.bool (rP n)))
 | _ => none
theorem eW.spec : bI Tryz.prog 105 eW.C := by
 refine bI.of (bR (F := []) (S := []) (by simp) (by simp) eW.loops) eW.at eW.nm eW.bd ?_
 intro vs b S v news e hS
 unfold eW.C at e
 split at e
 rotate_left
 · cases e
 cases e
 rw [eW.eq]
 unfold eW.H
 simp (maxSteps := 4000000) only [go_sem, reduceEqDiff, Nat.reduceLT, reduceAdd, reduceSub, reduceLeDiff, reduceReplicate, reduceToNat]
 exact aG rfl rfl
def fB.C : aE
 | [.int .i64 n] => some (false, pD True (.bool (vG n)))
 | _ => none
theorem fB.spec : bI Tryz.prog 107 fB.C := by
 refine bI.of (bR (F := [(105, eW.C)]) (S := []) (by simpa using eW.spec) (by simp) fB.loops) fB.at fB.nm fB.bd ?_
 intro vs b S v news e hS
 unfold fB.C at e
 split at e
 rotate_left
 · cases e
 cases e
 rw [fB.eq]
 unfold fB.H
 simp (maxSteps := 4000000) only [go_sem, reduceEqDiff, Nat.reduceLT, reduceAdd, reduceSub, reduceLeDiff, reduceReplicate, reduceToNat, eW.C]
 exact aG rfl rfl
theorem aGI (c : Ctx) (hd : c.drawn = false) (f : FuncId) (p : Int → Bool) (hf : ∀ n, c.envF f [.int .i64 n] = some (false, pD True (.bool (p n)))) (x : Bool) (l : List Int) (hr : roomy l.length) :
   bN.H c (.sl x (.ints .i64 l)) (.fn (.func f) [] []) [] (Post false (.int .i64 (idxI p l)) []) := by
 unfold roomy at hr
 unfold bN.H
 simp only [go_sem, reduceEqDiff, Nat.reduceLT, reduceAdd, reduceSub, reduceLeDiff, reduceReplicate, reduceToNat]
 rw [aA]
 unfold bN.L1
 refine kV (σ := Nat) (fun k => .int .i64 k) (fun k => []) (fun k => l.length - k) (fun k => k ≤ l.length ∧ ∀ y ∈ l.take k, p y = false) 0 rfl rfl ⟨Nat.zero_le _, by simp⟩ ?_
 rintro I back k ⟨hk, hall⟩
 simp only [hf, hd, go_sem, reduceEqDiff, Nat.reduceLT, reduceAdd, reduceSub, reduceLeDiff, reduceReplicate, reduceToNat]
 refine ⟨fun hlt => ⟨by omega, fun h => ?_, fun h => ?_⟩, fun hge => ?_⟩
 · have hkl : k < l.length := by omega
   have h1 : l.any p = true := List.any_eq_true.2 ⟨_, lK l k 0 hkl, h⟩
   have h2 : l.findIdx p = k := by
     rw [List.findIdx_eq hkl]
     refine ⟨by rw [List.getD_eq_getElem?_getD, List.getElem?_eq_getElem hkl] at h; exact h, fun j hj => ?_⟩
     have := hall l[j] (List.mem_take_iff_getElem.2 ⟨j, by omega, rfl⟩)
     simpa using this
   unfold idxI; rw [if_pos h1, h2]
   exact aG rfl rfl
 · refine back (k + 1) (by omega) (by rw [eH (by omega)]) rfl ⟨by omega, fun y hy => ?_⟩
   rw [gQ l k 0 (by omega), List.mem_append, List.mem_singleton] at hy
   rcases hy with hy | rfl
   · exact hall y hy
   · exact h
 · obtain rfl : k = l.length := by omega
   rw [List.take_length] at hall
   have h1 : ¬ l.any p = true := by
     rw [List.any_eq_true]; rintro ⟨y, hy, hp⟩; rw [hall y hy] at hp; cases hp
   unfold idxI; rw [if_neg h1]
   exact aG rfl rfl
def aDD (f : Nat) : Option (Int → Bool) :=
 if f = 103 then some lt1 else
 if f = 107 then some vG else
 none
@[go_sem] theorem aYd : aDD 103 = some lt1 := rfl
@[go_sem] theorem aYe : aDD 107 = some vG := rfl
def bN.C : aE
 | [.sl _ (.ints .i64 l), .fn (.func f) [] []] => match aDD f with
   | some p => some (false, pD (roomy l.length) (.int .i64 (idxI p l)))
   | none => none
 | _ => none
theorem bN.spec : bI Tryz.prog 102 bN.C := by
 refine bI.of (bR (F := [(103, fA.C), (107, fB.C)]) (S := []) (by simpa using ⟨fA.spec, fB.spec⟩) (by simp) bN.loops) bN.at bN.nm bN.bd ?_
 intro vs b S v news e hS
 unfold bN.C at e
 split at e
 rotate_left
 · cases e
 rw [bN.eq]
 rename_i x l f
 split at e
 rotate_left
 · cases e
 rename_i p hp
 cases e
 refine aGI _ rfl f p (fun n => ?_) x l hS
 unfold aDD at hp
 simp only [aMa]
 repeat' split at hp
 all_goals first | (rename_i h; subst h; cases hp; rfl) | cases hp
def bV.C : aE
 | [.sl _ (.ints .i64 l), .fn (.func f) [] []] => match aDD f with
   | some p => some (false, pD (roomy l.length) (.bool (l.any p)))
   | none => none
 | _ => none
theorem bV.spec : bI Tryz.prog 106 bV.C := by
 refine bI.of (bR (F := [(102, bN.C)]) (S := []) (by simpa using bN.spec) (by simp) bV.loops) bV.at bV.nm bV.bd ?_
 intro vs b S v news e hS
 unfold bV.C at e
 split at e
 rotate_left
 · cases e
 rw [bV.eq]
 rename_i x l f
 split at e
 rotate_left
 · cases e
 rename_i p hp
 cases e
 unfold bV.H
 simp only [bN.C, hp, go_sem, reduceEqDiff, Nat.reduceLT, reduceAdd, reduceSub, reduceLeDiff, reduceReplicate, reduceToNat]
 refine ⟨hS, ?_⟩
 have : decide (0 ≤ idxI p l) = l.any p := by
   unfold idxI
   cases h : l.any p
   · rfl
   · rw [if_pos rfl]; exact decide_eq_true (by omega)
 rw [this]; exact aG rfl rfl
end Lam
namespace Lam
open Go Go.Proofs
theorem aNW {l : List Int} {v : Int} {k : Nat} (hk : k < l.length) (h : v = l.getD k 0) (hall : ∀ y ∈ l.take k, (decide (v = y)) = false) : idxI (fun y => decide (v = y)) l = k := by
 have h1 : l.any (fun y => decide (v = y)) = true := List.any_eq_true.2 ⟨_, lK l k 0 hk, decide_eq_true h⟩
 have h2 : l.findIdx (fun y => decide (v = y)) = k := by
   rw [List.findIdx_eq hk]
   refine ⟨by rw [List.getD_eq_getElem?_getD, List.getElem?_eq_getElem hk] at h; exact decide_eq_true h, fun j hj => ?_⟩
   exact hall l[j] (List.mem_take_iff_getElem.2 ⟨j, by omega, rfl⟩)
 unfold idxI; rw [if_pos h1, h2]
theorem aGJ {l : List Int} {v : Int} (h : v ∉ l) : idxI (fun y => decide (v = y)) l = -1 := by
 unfold idxI
 rw [if_neg]
 rw [List.any_eq_true]
 rintro ⟨y, hy, hp⟩
 have := of_decide_eq_true hp
 subst this; exact h hy
def cG.C : aE
 | [.sl _ (.ints .i64 l), .int .i64 v] => some (false, pD (roomy l.length) (.int .i64 (idxI (fun y => decide (v = y)) l)))
 | _ => none
theorem cG.spec : bI Tryz.prog 104 cG.C := by
 refine bI.of (bR (F := []) (S := []) (by simp) (by simp) cG.loops) cG.at cG.nm cG.bd ?_
 intro vs b S v news e hS
 unfold cG.C at e
 split at e
 rotate_left
 · cases e
 cases e
 rw [cG.eq]
 unfold cG.H
 simp (maxSteps := 4000000) only [go_sem, reduceEqDiff, Nat.reduceLT, reduceAdd, reduceSub, reduceLeDiff, reduceReplicate, reduceToNat]
 rename_i _ l v
 have hr := hS
 unfold roomy at hr
 rw [aA]
 unfold cG.L1
 refine kV (σ := Nat) (fun k => .int .i64 k) (fun k => []) (fun k => l.length - k) (fun k => k ≤ l.length ∧ ∀ y ∈ l.take k, decide (v = y) = false) 0 rfl rfl ⟨Nat.zero_le _, by simp⟩ ?_
 rintro I back k ⟨hk, hall⟩
 simp only [go_sem, reduceEqDiff, Nat.reduceLT, reduceAdd, reduceSub, reduceLeDiff, reduceReplicate, reduceToNat]
 refine ⟨fun hlt => ⟨by omega, fun h => ?_, fun h => ?_⟩, fun hge => ?_⟩
 · rw [← aNW (by omega) h hall]
   exact aG rfl rfl
 · refine back (k + 1) (by omega) (by rw [eH (by omega)]) rfl ⟨by omega, fun y hy => ?_⟩
   rw [gQ l k 0 (by omega), List.mem_append, List.mem_singleton] at hy
   rcases hy with hy | rfl
   · exact hall y hy
   · exact decide_eq_false h
 · obtain rfl : k = l.length := by omega
   rw [List.take_length] at hall
   rw [aGJ (fun hm => by have := hall v hm; simp at this)]
   exact aG rfl rfl
def cE.C : aE
 | [.sl _ (.ints .i64 l), .int .i64 v] => some (false, pD (roomy l.length) (.bool (decide (v ∈ l))))
 | _ => none
theorem cE.spec : bI Tryz.prog 83 cE.C := by
 refine bI.of (bR (F := [(104, cG.C)]) (S := []) (by simpa using cG.spec) (by simp) cE.loops) cE.at cE.nm cE.bd ?_
 intro vs b S v news e hS
 unfold cE.C at e
 split at e
 rotate_left
 · cases e
 cases e
 rw [cE.eq]
 unfold cE.H
 simp (maxSteps := 4000000) only [go_sem, reduceEqDiff, Nat.reduceLT, reduceAdd, reduceSub, reduceLeDiff, reduceReplicate, reduceToNat, cG.C]
 rename_i _ l v
 refine ⟨hS, ?_⟩
 have : decide (0 ≤ idxI (fun y => decide (v = y)) l) = decide (v ∈ l) := by
   by_cases h : v ∈ l
   · rw [decide_eq_true h]
     unfold idxI
     rw [if_pos (List.any_eq_true.2 ⟨v, h, decide_eq_true rfl⟩)]
     exact decide_eq_true (by omega)
   · rw [aGJ h, decide_eq_false h]; rfl
 rw [this]
 exact aG rfl rfl
end Lam
namespace Lam
open Go Go.Proofs
def iM.loops : Nat → bX
 | 4 => ⟨[4, 10], [false, false], [3, 8, 9], [], [], []⟩
 | _ => ⟨[], [], [], [], [], []⟩
def iM.L1 (c : Ctx) (J1 : AV → List AObj → Prop) (K : AOut → List AObj → Prop) (lv : List AV) (h0 : List AObj) (n0 : Nat) (c3 : AV) (c8 : AV) (c9 : AV) : Prop :=
 ∃ I : Nat → List AV → List AObj → Prop, (∃ n, I n lv h0) ∧ ∀ n h, ∀ t4, ∀ t10, I n [t4, t10] h →
 runD (binD aB .lss t10 c9) h fun t11 h =>
 aW t11
 (runD (aH aM h c8 t10) h fun t12 h =>
 runD (fitD aB (aD h t12)) h fun t13 h =>
 aQ false c (.fn (.func 112) [] []) [c3, t4, t13] h (fun t16 h =>
 runD (binD aB .add t10 (.int .i64 1)) h fun t17 h =>
 (∃ m, m < n ∧ I m (AV.norms n0 h [t16, t17]) (cJ n0 h)) ∧ AV.norms n0 h [c3, c8, c9] = [c3, c8, c9])
 (fun v h => K (.pan v) h))
 (J1 t4 h)
def iM.H (c : Ctx) (t0 : AV) (h : List AObj) (K : AOut → List AObj → Prop) : Prop :=
 aQ false c (.fn (.func 111) [] []) [] h (fun t7 h =>
 cP jT h fun t3 h =>
 runH (aO jT h t3 t7) h fun _ h =>
 runD (lenD aM h t0) h fun t9 h =>
 aJ (fun (J1 : AV → List AObj → Prop) =>
 dC [false, false] [(.int .u32 4294967295), (.int .i64 0)] h fun lv h => iM.L1 c J1 K (AV.norms h.length h lv) (cJ h.length h) h.length (AV.norm h.length h t3) (AV.norm h.length h t0) (AV.norm h.length h t9))
 (fun t4 h => runD (unD .xor t4) h fun t19 h =>
 runD (jK h kG aB t19) h fun t20 h =>
 K (.ret t20) h))
 (fun v h => K (.pan v) h)
def dW.loops : Nat → bX
 | 2 => ⟨[3], [false], [0], [], [], []⟩
 | 6 => ⟨[2, 8], [false, false], [0, 1, 3], [], [], []⟩
 | _ => ⟨[], [], [], [], [], []⟩
def dW.L2 (c : Ctx) (J3 : AV → AV → AV → AV → List AObj → Prop) (K : AOut → List AObj → Prop) (lv : List AV) (h0 : List AObj) (n0 : Nat) (c0 : AV) (c1 : AV) (c3 : AV) : Prop :=
 ∃ I : Nat → List AV → List AObj → Prop, (∃ n, I n lv h0) ∧ ∀ n h, ∀ t2, ∀ t8, I n [t2, t8] h →
 runD (binD aB .lss t8 (.int .i64 8)) h fun t9 h =>
 aW t9
 (runD (binD kG .shr t2 (.int .u64 1)) h fun t11 h =>
 runD (binD kG .and t2 (.int .u32 1)) h fun t13 h =>
 runD (unD .neg t13) h fun t14 h =>
 runD (binD kG .and (.int .u32 3988292384) t14) h fun t15 h =>
 runD (binD kG .xor t11 t15) h fun t16 h =>
 runD (binD aB .add t8 (.int .i64 1)) h fun t17 h =>
 (∃ m, m < n ∧ I m (AV.norms n0 h [t16, t17]) (cJ n0 h)) ∧ AV.norms n0 h [c0, c1, c3] = [c0, c1, c3])
 (J3 c0 c1 t2 c3 h)
def dW.L1 (c : Ctx) (J1 : AV → List AObj → Prop) (K : AOut → List AObj → Prop) (lv : List AV) (h0 : List AObj) (n0 : Nat) (c0 : AV) : Prop :=
 ∃ I : Nat → List AV → List AObj → Prop, (∃ n, I n lv h0) ∧ ∀ n h, ∀ t3, I n [t3] h →
 runD (binD aB .lss t3 (.int .i64 256)) h fun t4 h =>
 aW t4
 (aJ (fun (J2 : AV → AV → List AObj → Prop) =>
 runD (jK h aB kG t3) h fun t7 h =>
 aJ (fun (J3 : AV → AV → AV → AV → List AObj → Prop) =>
 dC [false, false] [t7, (.int .i64 0)] h fun lv h => dW.L2 c J3 K (AV.norms h.length h lv) (cJ h.length h) h.length (AV.norm h.length h c0) (AV.norm h.length h t3) (AV.norm h.length h t3))
 (fun t0 t1 t2 t3 h => runD (aH jT h t0 t1) h fun t20 h =>
 runH (aO kG h t20 t2) h fun _ h =>
 J2 t0 t3 h))
 (fun t0 t3 h => runD (binD aB .add t3 (.int .i64 1)) h fun t21 h =>
 (∃ m, m < n ∧ I m (AV.norms n0 h [t21]) (cJ n0 h)) ∧ AV.norms n0 h [t0] = [c0]))
 (J1 c0 h)
def dW.H (c : Ctx) (h : List AObj) (K : AOut → List AObj → Prop) : Prop :=
 cP jT h fun t0 h =>
 aJ (fun (J1 : AV → List AObj → Prop) =>
 dC [false] [(.int .i64 0)] h fun lv h => dW.L1 c J1 K (AV.norms h.length h lv) (cJ h.length h) h.length (AV.norm h.length h t0))
 (fun t0 h => runD (fitD jT (aD h t0)) h fun t22 h =>
 runH (aO jT h t0 t22) h fun _ h =>
 cT (fitD jT (aD h t0)) fun r0 => K (.ret r0) h)
def gB.loops : Nat → bX
 | 2 => ⟨[1, 7], [false, false], [0, 2], [], [], []⟩
 | _ => ⟨[], [], [], [], [], []⟩
def gB.L1 (c : Ctx) (J1 : AV → List AObj → Prop) (K : AOut → List AObj → Prop) (lv : List AV) (h0 : List AObj) (n0 : Nat) (c0 : AV) (c2 : AV) : Prop :=
 ∃ I : Nat → List AV → List AObj → Prop, (∃ n, I n lv h0) ∧ ∀ n h, ∀ t1, ∀ t7, I n [t1, t7] h →
 runD (binD aB .geq t7 (.int .i64 0)) h fun t9 h =>
 aW t9
 (runD (jK h aB lL c2) h fun t15 h =>
 runD (binD lL .shr t15 t7) h fun t17 h =>
 runD (jK h lL lX t17) h fun t18 h =>
 aQ false c (.fn (.func 122) [] []) [c0, t1, t18] h (fun t19 h =>
 runD (binD aB .sub t7 (.int .i64 8)) h fun t11 h =>
 (∃ m, m < n ∧ I m (AV.norms n0 h [t19, t11]) (cJ n0 h)) ∧ AV.norms n0 h [c0, c2] = [c0, c2])
 (fun v h => K (.pan v) h))
 (J1 t1 h)
def gB.H (c : Ctx) (t0 : AV) (t1 : AV) (t2 : AV) (h : List AObj) (K : AOut → List AObj → Prop) : Prop :=
 aJ (fun (J1 : AV → List AObj → Prop) =>
 dC [false, false] [t1, (.int .i64 56)] h fun lv h => gB.L1 c J1 K (AV.norms h.length h lv) (cJ h.length h) h.length (AV.norm h.length h t0) (AV.norm h.length h t2))
 (fun t1 h => K (.ret t1) h)
def gP.loops : Nat → bX
 | _ => ⟨[], [], [], [], [], []⟩
def gP.H (c : Ctx) (t0 : AV) (t1 : AV) (t2 : AV) (h : List AObj) (K : AOut → List AObj → Prop) : Prop :=
 runD (binD kG .shr t1 (.int .u64 8)) h fun t8 h =>
 runD (jK h kG lX t1) h fun t11 h =>
 runD (binD lX .xor t11 t2) h fun t13 h =>
 runD (cV t0) h fun t14 h =>
 runD (aH jT h t14 t13) h fun t15 h =>
 runD (fitD kG (aD h t15)) h fun t16 h =>
 runD (binD kG .xor t8 t16) h fun t17 h =>
 K (.ret t17) h
theorem iM.eq (F : List (FuncId × aE)) (S : List (FuncId × Con)) (t0 : AV) (h : List AObj) (K : AOut → List AObj → Prop) : funW (ctx F S iM.loops) Tryz.f93 [t0] h K = iM.H (ctx F S iM.loops) t0 h K := by kernel_rfl
theorem dW.eq (F : List (FuncId × aE)) (S : List (FuncId × Con)) (h : List AObj) (K : AOut → List AObj → Prop) : funW (ctx F S dW.loops) Tryz.f111 [] h K = dW.H (ctx F S dW.loops)  h K := by kernel_rfl
theorem gB.eq (F : List (FuncId × aE)) (S : List (FuncId × Con)) (t0 t1 t2 : AV) (h : List AObj) (K : AOut → List AObj → Prop) : funW (ctx F S gB.loops) Tryz.f112 [t0, t1, t2] h K = gB.H (ctx F S gB.loops) t0 t1 t2 h K := by kernel_rfl
theorem gP.eq (F : List (FuncId × aE)) (S : List (FuncId × Con)) (t0 t1 t2 : AV) (h : List AObj) (K : AOut → List AObj → Prop) : funW (ctx F S gP.loops) Tryz.f122 [t0, t1, t2] h K = gP.H (ctx F S gP.loops) t0 t1 t2 h K := by kernel_rfl
theorem iM.at : Tryz.prog.funcs[93]? = some Tryz.f93 := by kernel_rfl
theorem iM.nm : (Tryz.f93.name == "runtime.NumGoroutine") = false := by kernel_rfl
theorem iM.bd : Tryz.f93.body.isNone = false := by kernel_rfl
theorem dW.at : Tryz.prog.funcs[111]? = some Tryz.f111 := by kernel_rfl
theorem dW.nm : (Tryz.f111.name == "runtime.NumGoroutine") = false := by kernel_rfl
theorem dW.bd : Tryz.f111.body.isNone = false := by kernel_rfl
theorem gB.at : Tryz.prog.funcs[112]? = some Tryz.f112 := by kernel_rfl
theorem gB.nm : (Tryz.f112.name == "runtime.NumGoroutine") = false := by kernel_rfl
theorem gB.bd : Tryz.f112.body.isNone = false := by kernel_rfl
theorem gP.at : Tryz.prog.funcs[122]? = some Tryz.f122 := by kernel_rfl
theorem gP.nm : (Tryz.f122.name == "runtime.NumGoroutine") = false := by kernel_rfl
theorem gP.bd : Tryz.f122.body.isNone = false := by kernel_rfl
end Lam
namespace Lam
open Go Go.Proofs
theorem aGK (c t3 : Int) (xs : List Int) (h : List AObj) (J : AV → AV → AV → AV → List AObj → Prop) (K : AOut → List AObj → Prop) (hh : h = [AObj.row .arr 0 (.ints .u32 xs)])
   (hJ : J (.ptr 0 []) (.int .i64 t3) (.int .u32 (bitN 8 c)) (.int .i64 t3) h) :
   dW.L2 (ctx [] [] dW.loops) J K [.int .u32 c, .int .i64 0] h 1 (.ptr 0 []) (.int .i64 t3) (.int .i64 t3) := by
 unfold dW.L2
 refine ⟨fun n lv h' => ∃ k : Nat, k + n = 8 ∧ lv = [.int .u32 (bitN k c), .int .i64 k] ∧ h' = h, ⟨8, 0, rfl, rfl, rfl⟩, ?_⟩
 rintro n h' t2 t8 ⟨k, hk, hlv, rfl⟩
 simp only [List.cons.injEq, and_true] at hlv
 obtain ⟨rfl, rfl⟩ := hlv
 subst hh
 simp only [go_sem, Nat.reduceLT]
 refine ⟨fun hlt => ⟨by decide, n - 1, by omega, k + 1, by omega, ?_⟩, fun hge => ?_⟩
 · rw [w64 (by omega) (by omega)]
   rfl
 · have : k = 8 := by omega
   subst this; exact hJ

theorem aGL (J : AV → List AObj → Prop) (K : AOut → List AObj → Prop) (hJ : J (.ptr 0 []) [AObj.row .arr 0 (.ints .u32 tabL)]) :
   dW.L1 (ctx [] [] dW.loops) J K [.int .i64 0] [AObj.row .arr 0 (.ints .u32 (List.replicate 256 0))] 1 (.ptr 0 []) := by
 unfold dW.L1
 refine ⟨fun n lv h' => ∃ k : Nat, k + n = 256 ∧ lv = [.int .i64 k] ∧ h' = [AObj.row .arr 0 (.ints .u32 ((List.range k).map tabE ++ List.replicate n 0))], ⟨256, 0, rfl, rfl, rfl⟩, ?_⟩
 rintro n h' t3 ⟨k, hk, hlv, rfl⟩
 simp only [List.cons.injEq, and_true] at hlv
 subst hlv
 simp only [go_sem, Nat.reduceLT]
 refine ⟨fun hlt => ?_, fun hge => ?_⟩
 · simp only [aA]
   apply aGK _ _ _ _ _ _ rfl
   have hlen : ((List.range k).map tabE ++ List.replicate n 0).length = 256 := by simp; omega
   simp only [go_sem, Nat.reduceLT, hlen, Int.toNat_natCast]
   refine ⟨by omega, by omega, n - 1, by omega, k + 1, by omega, ?_, ?_⟩
   · rw [w64 (by omega) (by omega)]; rfl
   · obtain ⟨m, rfl⟩ : ∃ m, n = m + 1 := ⟨n - 1, by omega⟩
     simp [List.range_succ, List.replicate_succ, tabE]
 · have hn : n = 0 := by omega
   have hk : k = 256 := by omega
   subst hn hk
   simpa [tabL] using hJ

theorem aGM : dW.H (ctx [] [] dW.loops) [] (Post false (.arr (.ints .u32 tabL)) []) := by
 unfold dW.H
 simp only [go_sem, Nat.reduceLT]
 simp only [aA]
 apply aGL
 have : tabL.length = 256 := by simp [tabL]
 simp only [go_sem, this]
 exact aG rfl rfl

def dW.C : aE
 | [] => some (false, pD True (.arr (.ints .u32 tabL)))
 | _ => none
theorem dW.spec : bI Tryz.prog 111 dW.C := by
 refine bI.of (bR (F := []) (S := []) (by simp) (by simp) dW.loops) dW.at dW.nm dW.bd ?_
 intro vs b S v news e hS
 unfold dW.C at e
 split at e
 rotate_left
 · cases e
 rw [dW.eq]
 cases e
 exact aGM
def gP.K : Con := fun args h K => match args with
 | [a0, a1, a2] => gP.H (ctx [] [] gP.loops) a0 a1 a2 h K
 | _ => False
theorem gP.spec : dH Tryz.prog 122 gP.K := by
 refine dH.of (bR (F := []) (S := []) (by simp) (by simp) gP.loops) gP.at gP.nm gP.bd ?_
 intro args h K hC
 unfold gP.K at hC
 split at hC
 · rw [gP.eq]; exact hC
 · exact hC.elim
theorem aHO (t : List Int) (ht : t.length = 256) (c b : Int) (h : List AObj) (K : AOut → List AObj → Prop) (id : Nat) (hid : h[id]? = some (.row .arr 0 (.ints .u32 t))) (hK : K (.ret (.int .u32 (aMH t c b))) h) :
   gP.K [.ptr id [], .int .u32 c, .int .u8 b] h K := by
 unfold gP.K
 simp only
 unfold gP.H
 simp only [go_sem, hid, ht]
 have hr : 0 ≤ xorI .u8 (IntKind.u8.wrap c) b ∧ xorI .u8 (IntKind.u8.wrap c) b < 256 := aGy _
 exact ⟨by decide, hr, (Int.toNat_lt hr.1).2 hr.2, hK⟩

def gB.K : Con := fun args h K => match args with
 | [a0, a1, a2] => gB.H (ctx [] [(122, gP.K)] gB.loops) a0 a1 a2 h K
 | _ => False
theorem gB.spec : dH Tryz.prog 112 gB.K := by
 refine dH.of (bR (F := []) (S := [(122, gP.K)]) (by simp) (by simpa using gP.spec) gB.loops) gB.at gB.nm gB.bd ?_
 intro args h K hC
 unfold gB.K at hC
 split at hC
 · rw [gB.eq]; exact hC
 · exact hC.elim
theorem aHP (t : List Int) (ht : t.length = 256) (c w : Int) (h : List AObj) (K : AOut → List AObj → Prop) (hh : h = [.row .arr 0 (.ints .u32 t)]) (hK : K (.ret (.int .u32 (aJs t c w))) h) :
   gB.K [.ptr 0 [], .int .u32 c, .int .i64 w] h K := by
 unfold gB.K
 simp only
 unfold gB.H
 subst hh
 simp only [aA, go_sem, Nat.reduceLT]
 unfold gB.L1
 refine ⟨fun n lv h' => ∃ k : Nat, k + n = 8 ∧ lv = [.int .u32 (aFI t w k c), .int .i64 (56 - 8 * k)] ∧ h' = [.row .arr 0 (.ints .u32 t)], ⟨8, 0, rfl, rfl, rfl⟩, ?_⟩
 rintro n h' t1 t7 ⟨k, hk, hlv, rfl⟩
 simp only [List.cons.injEq, and_true] at hlv
 obtain ⟨rfl, rfl⟩ := hlv
 simp only [go_sem, Nat.reduceLT, reduceEqDiff]
 refine ⟨fun hlt => ?_, fun hge => ?_⟩
 · refine ⟨hlt, ?_⟩
   apply aHO t ht _ _ _ _ _ rfl
   simp only [go_sem, Nat.reduceLT]
   refine ⟨n - 1, by omega, k + 1, by omega, ?_⟩
   rw [w64 (by omega) (by omega)]
   simp only [aFI]
   congr 3
   omega
 · have : k = 8 := by omega
   subst this; exact hK

def iM.C : aE
 | [.sl _ (.ints .i64 l)] => some (false, pD (roomy l.length) (.int .i64 (aBj l)))
 | _ => none
theorem iM.spec : bI Tryz.prog 93 iM.C := by
 refine bI.of (bR (F := [(111, dW.C)]) (S := [(112, gB.K)]) (by simpa using dW.spec) (by simpa using gB.spec) iM.loops) iM.at iM.nm iM.bd ?_
 intro vs b S v news e hS
 unfold iM.C at e
 split at e
 rotate_left
 · cases e
 rw [iM.eq]
 rename_i x l
 cases e
 unfold roomy at hS
 unfold iM.H
 have htl : tabL.length = 256 := aLV
 simp only [go_sem, reduceEqDiff, Nat.reduceLT, dW.C, htl, List.length_replicate, aA]
 unfold iM.L1
 refine ⟨fun n lv h' => ∃ k : Nat, k + n = l.length ∧ lv = [.int .u32 ((l.take k).foldl (aJs tabL) 4294967295), .int .i64 k] ∧ h' = [.row .arr 0 (.ints .u32 tabL)], ⟨l.length, 0, by omega, rfl, rfl⟩, ?_⟩
 rintro n h' t4 t10 ⟨k, hk, hlv, rfl⟩
 simp only [List.cons.injEq, and_true] at hlv
 obtain ⟨rfl, rfl⟩ := hlv
 simp only [go_sem, Nat.reduceLT, reduceEqDiff]
 refine ⟨fun hlt => ?_, fun hge => ?_⟩
 · refine ⟨by omega, ?_⟩
   apply aHP tabL htl _ _ _ _ rfl
   simp only [go_sem, Nat.reduceLT]
   refine ⟨n - 1, by omega, k + 1, by omega, ?_⟩
   rw [w64 (by omega) (by omega)]
   have hkl : k < l.length := by omega
   have : l.take (k + 1) = l.take k ++ [l.getD k 0] := by
     rw [List.take_add_one, List.getElem?_eq_getElem hkl, List.getD_eq_getElem?_getD, List.getElem?_eq_getElem hkl]; rfl
   rw [this, List.foldl_append]
   rfl
 · have : k = l.length := by omega
   subst this
   rw [List.take_length]
   exact aG rfl rfl
end Lam
namespace Lam
open Go Go.Proofs
def fV.C : aE
 | [.sl _ (.ints .i64 l)] => some (false, pD (roomy l.length) (newM l))
 | _ => none
theorem fV.spec : bI Tryz.prog 28 fV.C := by
 refine bI.of (bR (F := [(33, fF.C), (34, bA.C)]) (S := []) (by simpa using ⟨fF.spec, bA.spec⟩) (by simp) fV.loops) fV.at fV.nm fV.bd ?_
 intro vs b S v news e hS
 unfold fV.C at e
 split at e
 rotate_left
 · cases e
 cases e
 rw [fV.eq]
 unfold fV.H
 simp (maxSteps := 4000000) only [go_sem, reduceEqDiff, Nat.reduceLT, reduceAdd, reduceSub, reduceLeDiff, reduceReplicate, reduceToNat, fF.C, bA.C]
 rename_i l
 unfold roomy at hS
 refine ⟨fun hb => ?_, fun hb => ?_⟩
 · unfold newM; rw [hb]; exact aG rfl rfl
 · refine ⟨hS, hS, ?_⟩
   unfold newM; simp only [hb, if_true]
   refine aG ?_ rfl
   simp only [go_sem, reduceEqDiff, Nat.reduceLT, reduceAdd, reduceSub, reduceLeDiff, reduceReplicate, reduceToNat, memV, List.take_length]
end Lam
namespace Lam
open Go Go.Proofs
def iH.loops : Nat → bX
 | _ => ⟨[], [], [], [], [], []⟩
def iH.H (c : Ctx) (t0 : AV) (t1 : AV) (h : List AObj) (K : AOut → List AObj → Prop) : Prop :=
 boxW aN t0 h fun t2 h =>
 boxW fM t1 h fun t3 h =>
 cP aN h fun t4 h =>
 runD (fitD aN (aD h t2)) h fun t6 h =>
 runD (fitD fM (aD h t3)) h fun t7 h =>
 runD (eN kB 1 [(0, t7)] h.length) h fun t8 h =>
 aQ false c (.fn (.func 96) [] []) [t6, t8] h (fun t9 h =>
 runD (aV t9 0) h fun t10 h =>
 runD (aV t9 1) h fun t11 h =>
 runH (aO aN h t4 t10) h fun _ h =>
 cT (fitD aN (aD h t4)) fun r0 => K (.ret (.tup [r0, t11])) h)
 (fun v h => K (.pan v) h)
def hG.loops : Nat → bX
 | _ => ⟨[], [], [], [], [], []⟩
def hG.H (c : Ctx) (t0 : AV) (t1 : AV) (h : List AObj) (K : AOut → List AObj → Prop) : Prop :=
 boxW aN t0 h fun t2 h =>
 cP aN h fun t4 h =>
 runD (fitD aN (aD h t2)) h fun t6 h =>
 aQ false c (.fn (.func 113) [] []) [t6, t1] h (fun t8 h =>
 runD (unD .not t8) h fun t9 h =>
 aW t9
 (runD (fitD aN (aD h t2)) h fun t10 h =>
 runH (aO aN h t4 t10) h fun _ h =>
 cT (fitD aN (aD h t4)) fun r0 => K (.ret (.tup [r0, (.int .i64 40)])) h)
 (runD (fitD aN (aD h t2)) h fun t11 h =>
 runD (lenD kB h t1) h fun t14 h =>
 aQ false c (.fn (.func 114) [] []) [t11, t1, t14] h (fun t15 h =>
 runH (aO aN h t4 t15) h fun _ h =>
 cT (fitD aN (aD h t4)) fun r0 => K (.ret (.tup [r0, (.int .i64 0)])) h)
 (fun v h => K (.pan v) h)))
 (fun v h => K (.pan v) h)
def fO.loops : Nat → bX
 | 1 => ⟨[], [], [], [(3, none), (5, some [7, 12])], [], []⟩
 | _ => ⟨[], [], [], [], [], []⟩
def fO.H (c : Ctx) (t0 : AV) (t1 : AV) (h : List AObj) (K : AOut → List AObj → Prop) : Prop :=
 boxW aN t0 h fun t2 h =>
 runD (fitD aN (aD h t2)) h fun t5 h =>
 aQ false c (.fn (.func 13) [] []) [t5] h (fun t6 h =>
 aJ (fun (J1 : AV → AV → List AObj → Prop) =>
 aT t6 true
 (runD (aC aN t2 0) h fun t9 h =>
 runD (fitD aM (aD h t9)) h fun t10 h =>
 runD (lenD aM h t10) h fun t11 h =>
 aQ false c (.fn (.func 123) [] []) [t1, t11] h (fun t12 h =>
 J1 (.bool true) t12 h)
 (fun v h => K (.pan v) h))
 (J1 (.bool false) .und h))
 (fun t7 t12 h => runD (bK t7 t12 (.bool false)) h fun t13 h =>
 K (.ret t13) h))
 (fun v h => K (.pan v) h)
def eO.loops : Nat → bX
 | 4 => ⟨[15], [false], [1, 6, 7, 8, 14], [], [], []⟩
 | _ => ⟨[], [], [], [], [], []⟩
def eO.L1 (c : Ctx) (J1 : AV → AV → List AObj → Prop) (K : AOut → List AObj → Prop) (lv : List AV) (h0 : List AObj) (n0 : Nat) (c1 : AV) (c6 : AV) (c7 : AV) (c8 : AV) (c14 : AV) : Prop :=
 ∃ I : Nat → List AV → List AObj → Prop, (∃ n, I n lv h0) ∧ ∀ n h, ∀ t15, I n [t15] h →
 runD (binD aB .lss t15 c14) h fun t16 h =>
 aW t16
 (runD (aH kB h c1 t15) h fun t21 h =>
 runD (aC fM t21 0) h fun t22 h =>
 runD (fitD aB (aD h t22)) h fun t23 h =>
 runD (lW eY h c8 t23) h fun t24 h =>
 runD (aH kB h c1 t15) h fun t28 h =>
 runD (fitD fM (aD h t28)) h fun t29 h =>
 aQ false c t24 [c7, t29] h (fun t30 h =>
 runD (binD aB .add t15 (.int .i64 1)) h fun t31 h =>
 (∃ m, m < n ∧ I m (AV.norms n0 h [t31]) (cJ n0 h)) ∧ AV.norms n0 h [c1, c6, c7, c8, c14] = [c1, c6, c7, c8, c14])
 (fun v h => K (.pan v) h))
 (J1 c6 c7 h)
def eO.H (c : Ctx) (t0 : AV) (t1 : AV) (t2 : AV) (h : List AObj) (K : AOut → List AObj → Prop) : Prop :=
 boxW aN t0 h fun t3 h =>
 cP aN h fun t6 h =>
 runD (fitD aN (aD h t3)) h fun t10 h =>
 runD (gT jH [(0, t10)]) h fun t11 h =>
 boxW jH t11 h fun t12 h =>
 aQ false c (.fn (.func 124) [] []) [] h (fun t13 h =>
 aJ (fun (J1 : AV → AV → List AObj → Prop) =>
 dC [false] [(.int .i64 0)] h fun lv h => eO.L1 c J1 K (AV.norms h.length h lv) (cJ h.length h) h.length (AV.norm h.length h t1) (AV.norm h.length h t6) (AV.norm h.length h t12) (AV.norm h.length h t13) (AV.norm h.length h t2))
 (fun t6 t7 h => runD (cV t7) h fun t33 h =>
 runD (aC jH t33 0) h fun t34 h =>
 runD (fitD aN (aD h t34)) h fun t35 h =>
 runH (aO aN h t6 t35) h fun _ h =>
 cT (fitD aN (aD h t6)) fun r0 => K (.ret r0) h))
 (fun v h => K (.pan v) h)
def fP.loops : Nat → bX
 | 1 => ⟨[], [], [], [(3, none), (2, some [8, 10]), (2, none), (3, some [12, 15])], [], []⟩
 | 2 => ⟨[], [], [], [(2, none), (4, some [18, 22])], [], []⟩
 | _ => ⟨[], [], [], [], [], []⟩
def fP.H (c : Ctx) (t0 : AV) (t1 : AV) (h : List AObj) (K : AOut → List AObj → Prop) : Prop :=
 boxW aB t1 h fun t3 h =>
 runD (fitD aB (aD h t3)) h fun t6 h =>
 runD (binD aB .geq t6 (.int .i64 0)) h fun t7 h =>
 aJ (fun (J1 : AV → AV → List AObj → Prop) =>
 aT t7 true
 (runD (fitD aB (aD h t3)) h fun t9 h =>
 runD (binD aB .leq t9 (.int .i64 4096)) h fun t10 h =>
 J1 (.bool true) t10 h)
 (J1 (.bool false) .und h))
 (fun t8 t10 h => runD (bK t8 t10 (.bool false)) h fun t11 h =>
 aJ (fun (J2 : AV → AV → List AObj → Prop) =>
 aT t11 true
 (runD (fitD aB (aD h t3)) h fun t13 h =>
 runD (binD aB .rem t13 (.int .i64 8)) h fun t14 h =>
 runD (binD aB .eql t14 (.int .i64 0)) h fun t15 h =>
 J2 (.bool true) t15 h)
 (J2 (.bool false) .und h))
 (fun t12 t15 h => runD (bK t12 t15 (.bool false)) h fun t16 h =>
 aJ (fun (J3 : AV → AV → List AObj → Prop) =>
 aT t16 true
 (aQ false c (.fn (.func 136) [] []) [t0, (.fn (.func 137) [] [t3])] h (fun t21 h =>
 runD (unD .not t21) h fun t22 h =>
 J3 (.bool true) t22 h)
 (fun v h => K (.pan v) h))
 (J3 (.bool false) .und h))
 (fun t18 t22 h => runD (bK t18 t22 (.bool false)) h fun t23 h =>
 K (.ret t23) h)))
def eS.loops : Nat → bX
 | _ => ⟨[], [], [], [], [], []⟩
def eS.H (c : Ctx) (h : List AObj) (K : AOut → List AObj → Prop) : Prop :=
 runD (kQ eY h.length) h fun t1 h =>
 runH (jQ eY h t1 (.int .i64 1) (.fn (.func 139) [] [])) h fun _ h =>
 runH (jQ eY h t1 (.int .i64 2) (.fn (.func 140) [] [])) h fun _ h =>
 K (.ret t1) h
def dN.loops : Nat → bX
 | _ => ⟨[], [], [], [], [], []⟩
def dN.H (c : Ctx) (t0 : AV) (t1 : AV) (h : List AObj) (K : AOut → List AObj → Prop) : Prop :=
 boxW fM t0 h fun t2 h =>
 runD (fitD fM (aD h t2)) h fun t4 h =>
 runD (fitD aB (aD h t1)) h fun t5 h =>
 aQ false c (.fn (.func 138) [] []) [t4, t5] h (fun t6 h =>
 runD (unD .not t6) h fun t7 h =>
 K (.ret t7) h)
 (fun v h => K (.pan v) h)
def gR.loops : Nat → bX
 | 2 => ⟨[], [], [], [(4, none), (7, some [14, 21]), (2, none), (8, some [23, 31])], [], []⟩
 | _ => ⟨[], [], [], [], [], []⟩
def gR.H (c : Ctx) (t0 : AV) (t1 : AV) (h : List AObj) (K : AOut → List AObj → Prop) : Prop :=
 boxW fM t0 h fun t2 h =>
 runD (kQ mM h.length) h fun t6 h =>
 runH (jQ mM h t6 (.int .i64 1) t1) h fun _ h =>
 runD (binD aB .quo t1 (.int .i64 8)) h fun t9 h =>
 runH (jQ mM h t6 (.int .i64 2) t9) h fun _ h =>
 runD (aC fM t2 1) h fun t11 h =>
 runD (fitD aB (aD h t11)) h fun t12 h =>
 runD (binD aB .geq t12 (.int .i64 0)) h fun t13 h =>
 aJ (fun (J1 : AV → AV → List AObj → Prop) =>
 aT t13 true
 (runD (aC fM t2 1) h fun t15 h =>
 runD (fitD aB (aD h t15)) h fun t16 h =>
 runD (aC fM t2 0) h fun t18 h =>
 runD (fitD aB (aD h t18)) h fun t19 h =>
 runD (lW mM h t6 t19) h fun t20 h =>
 runD (binD aB .lss t16 t20) h fun t21 h =>
 J1 (.bool true) t21 h)
 (J1 (.bool false) .und h))
 (fun t14 t21 h => runD (bK t14 t21 (.bool false)) h fun t22 h =>
 aJ (fun (J2 : AV → AV → List AObj → Prop) =>
 aT t22 true
 (runD (aC fM t2 0) h fun t24 h =>
 runD (fitD aB (aD h t24)) h fun t25 h =>
 runD (binD aB .eql t25 (.int .i64 1)) h fun t26 h =>
 aJ (fun (J3 : AV → AV → List AObj → Prop) =>
 aT t26 false
 (runD (aC fM t2 2) h fun t28 h =>
 runD (fitD aB (aD h t28)) h fun t29 h =>
 runD (binD aB .eql t29 (.int .i64 0)) h fun t30 h =>
 J3 (.bool false) t30 h)
 (J3 (.bool true) .und h))
 (fun t27 t30 h => runD (bK t27 (.bool true) t30) h fun t31 h =>
 J2 (.bool true) t31 h))
 (J2 (.bool false) .und h))
 (fun t23 t31 h => runD (bK t23 t31 (.bool false)) h fun t32 h =>
 K (.ret t32) h))
def cY.loops : Nat → bX
 | _ => ⟨[], [], [], [], [], []⟩
def cY.H (c : Ctx) (t0 : AV) (t1 : AV) (h : List AObj) (K : AOut → List AObj → Prop) : Prop :=
 boxW fM t1 h fun t3 h =>
 runD (cV t0) h fun t7 h =>
 runD (aC jH t7 0) h fun t8 h =>
 runD (fitD aN (aD h t8)) h fun t9 h =>
 runD (aC fM t3 1) h fun t10 h =>
 runD (fitD aB (aD h t10)) h fun t11 h =>
 runD (aC fM t3 2) h fun t12 h =>
 runD (fitD aB (aD h t12)) h fun t13 h =>
 aQ false c.noS (.fn (.func 148) [] []) [t9, t11, t13] h (fun t14 h =>
 runD (aV t14 0) h fun t15 h =>
 runD (aV t14 1) h fun t16 h =>
 runD (cV t0) h fun t17 h =>
 runD (aC jH t17 0) h fun t18 h =>
 runH (aO aN h t18 t15) h fun _ h =>
 K (.ret (.tup [])) h)
 (fun _ _ => False)
def cS.loops : Nat → bX
 | _ => ⟨[], [], [], [], [], []⟩
def cS.H (c : Ctx) (t0 : AV) (t1 : AV) (h : List AObj) (K : AOut → List AObj → Prop) : Prop :=
 boxW fM t1 h fun t3 h =>
 runD (cV t0) h fun t7 h =>
 runD (aC jH t7 0) h fun t8 h =>
 runD (fitD aN (aD h t8)) h fun t9 h =>
 runD (aC fM t3 1) h fun t10 h =>
 runD (fitD aB (aD h t10)) h fun t11 h =>
 aQ false c.noS (.fn (.func 149) [] []) [t9, t11] h (fun t12 h =>
 runD (aV t12 0) h fun t13 h =>
 runD (aV t12 1) h fun t14 h =>
 runD (cV t0) h fun t15 h =>
 runD (aC jH t15 0) h fun t16 h =>
 runH (aO aN h t16 t13) h fun _ h =>
 runD (cV t0) h fun t20 h =>
 runD (aC jH t20 0) h fun t21 h =>
 runD (fitD aN (aD h t21)) h fun t22 h =>
 aQ false c (.fn (.func 150) [] []) [t22] h (fun t23 h =>
 runD (aV t23 0) h fun t24 h =>
 runD (aV t23 1) h fun t25 h =>
 runD (cV t0) h fun t26 h =>
 runD (aC jH t26 0) h fun t27 h =>
 runH (aO aN h t27 t24) h fun _ h =>
 K (.ret (.tup [])) h)
 (fun v h => K (.pan v) h))
 (fun _ _ => False)
theorem iH.eq (F : List (FuncId × aE)) (S : List (FuncId × Con)) (t0 t1 : AV) (h : List AObj) (K : AOut → List AObj → Prop) : funW (ctx F S iH.loops) Tryz.f74 [t0, t1] h K = iH.H (ctx F S iH.loops) t0 t1 h K := by kernel_rfl
theorem hG.eq (F : List (FuncId × aE)) (S : List (FuncId × Con)) (t0 t1 : AV) (h : List AObj) (K : AOut → List AObj → Prop) : funW (ctx F S hG.loops) Tryz.f96 [t0, t1] h K = hG.H (ctx F S hG.loops) t0 t1 h K := by kernel_rfl
theorem fO.eq (F : List (FuncId × aE)) (S : List (FuncId × Con)) (t0 t1 : AV) (h : List AObj) (K : AOut → List AObj → Prop) : funW (ctx F S fO.loops) Tryz.f113 [t0, t1] h K = fO.H (ctx F S fO.loops) t0 t1 h K := by kernel_rfl
theorem eO.eq (F : List (FuncId × aE)) (S : List (FuncId × Con)) (t0 t1 t2 : AV) (h : List AObj) (K : AOut → List AObj → Prop) : funW (ctx F S eO.loops) Tryz.f114 [t0, t1, t2] h K = eO.H (ctx F S eO.loops) t0 t1 t2 h K := by kernel_rfl
theorem fP.eq (F : List (FuncId × aE)) (S : List (FuncId × Con)) (t0 t1 : AV) (h : List AObj) (K : AOut → List AObj → Prop) : funW (ctx F S fP.loops) Tryz.f123 [t0, t1] h K = fP.H (ctx F S fP.loops) t0 t1 h K := by kernel_rfl
theorem eS.eq (F : List (FuncId × aE)) (S : List (FuncId × Con)) (h : List AObj) (K : AOut → List AObj → Prop) : funW (ctx F S eS.loops) Tryz.f124 [] h K = eS.H (ctx F S eS.loops)  h K := by kernel_rfl
theorem dN.eq (F : List (FuncId × aE)) (S : List (FuncId × Con)) (t0 t1 : AV) (h : List AObj) (K : AOut → List AObj → Prop) : funW (ctx F S dN.loops) Tryz.f137 [t0, t1] h K = dN.H (ctx F S dN.loops) t0 t1 h K := by kernel_rfl
theorem gR.eq (F : List (FuncId × aE)) (S : List (FuncId × Con)) (t0 t1 : AV) (h : List AObj) (K : AOut → List AObj → Prop) : funW (ctx F S gR.loops) Tryz.f138 [t0, t1] h K = gR.H (ctx F S gR.loops) t0 t1 h K := by kernel_rfl
theorem cY.eq (F : List (FuncId × aE)) (S : List (FuncId × Con)) (t0 t1 : AV) (h : List AObj) (K : AOut → List AObj → Prop) : funW (ctx F S cY.loops) Tryz.f139 [t0, t1] h K = cY.H (ctx F S cY.loops) t0 t1 h K := by kernel_rfl
theorem cS.eq (F : List (FuncId × aE)) (S : List (FuncId × Con)) (t0 t1 : AV) (h : List AObj) (K : AOut → List AObj → Prop) : funW (ctx F S cS.loops) Tryz.f140 [t0, t1] h K = cS.H (ctx F S cS.loops) t0 t1 h K := by kernel_rfl
theorem iH.at : Tryz.prog.funcs[74]? = some Tryz.f74 := by kernel_rfl
theorem iH.nm : (Tryz.f74.name == "runtime.NumGoroutine") = false := by kernel_rfl
theorem iH.bd : Tryz.f74.body.isNone = false := by kernel_rfl
theorem hG.at : Tryz.prog.funcs[96]? = some Tryz.f96 := by kernel_rfl
theorem hG.nm : (Tryz.f96.name == "runtime.NumGoroutine") = false := by kernel_rfl
theorem hG.bd : Tryz.f96.body.isNone = false := by kernel_rfl
theorem fO.at : Tryz.prog.funcs[113]? = some Tryz.f113 := by kernel_rfl
theorem fO.nm : (Tryz.f113.name == "runtime.NumGoroutine") = false := by kernel_rfl
theorem fO.bd : Tryz.f113.body.isNone = false := by kernel_rfl
theorem eO.at : Tryz.prog.funcs[114]? = some Tryz.f114 := by kernel_rfl
theorem eO.nm : (Tryz.f114.name == "runtime.NumGoroutine") = false := by kernel_rfl
theorem eO.bd : Tryz.f114.body.isNone = false := by kernel_rfl
theorem fP.at : Tryz.prog.funcs[123]? = some Tryz.f123 := by kernel_rfl
theorem fP.nm : (Tryz.f123.name == "runtime.NumGoroutine") = false := by kernel_rfl
theorem fP.bd : Tryz.f123.body.isNone = false := by kernel_rfl
theorem eS.at : Tryz.prog.funcs[124]? = some Tryz.f124 := by kernel_rfl
theorem eS.nm : (Tryz.f124.name == "runtime.NumGoroutine") = false := by kernel_rfl
theorem eS.bd : Tryz.f124.body.isNone = false := by kernel_rfl
theorem dN.at : Tryz.prog.funcs[137]? = some Tryz.f137 := by kernel_rfl
theorem dN.nm : (Tryz.f137.name == "runtime.NumGoroutine") = false := by kernel_rfl
theorem dN.bd : Tryz.f137.body.isNone = false := by kernel_rfl
theorem gR.at : Tryz.prog.funcs[138]? = some Tryz.f138 := by kernel_rfl
theorem gR.nm : (Tryz.f138.name == "runtime.NumGoroutine") = false := by kernel_rfl
theorem gR.bd : Tryz.f138.body.isNone = false := by kernel_rfl
theorem cY.at : Tryz.prog.funcs[139]? = some Tryz.f139 := by kernel_rfl
theorem cY.nm : (Tryz.f139.name == "runtime.NumGoroutine") = false := by kernel_rfl
theorem cY.bd : Tryz.f139.body.isNone = false := by kernel_rfl
theorem cS.at : Tryz.prog.funcs[140]? = some Tryz.f140 := by kernel_rfl
theorem cS.nm : (Tryz.f140.name == "runtime.NumGoroutine") = false := by kernel_rfl
theorem cS.bd : Tryz.f140.body.isNone = false := by kernel_rfl
end Lam
