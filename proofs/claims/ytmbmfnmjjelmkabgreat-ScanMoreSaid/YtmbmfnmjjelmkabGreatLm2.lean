/- What functions of the program come to, each proved from its code. -/
import Derived.Test.YtmbmfnmjjelmkabGreatLm1
import Derived.TacticsIn
import Derived.Laws.Cover3
import Derived.OrdersIn
set_option linter.unusedVariables false
set_option linter.unusedSimpArgs false
set_option linter.unnecessarySimpa false
set_option linter.unusedSectionVars false
open Nat (reduceEqDiff reduceAdd reduceSub reduceLeDiff)
open Int (reduceToNat reduceEq reduceLE reduceLT)
open List (reduceReplicate)
set_option maxRecDepth 20000
namespace Lam
open Go

section
variable {P : Program} {X : Cx}

theorem aEu {w w' : World} (h : w'.heap = w.heap) (a : Addr) : w'.cell? a = w.cell? a := by unfold World.cell?; rw [h]

theorem vN {l : Lst} (h : l.len = 0) : l.flat = [] := by
 apply List.eq_nil_of_length_eq_zero; rw [Lst.flat_length, h, Nat.zero_mul]

theorem sU {ys : Lst} {cx : Value} (L : Lies X ys cx) {w' : World} (hw : w'.heap = X.w.heap) : (Builtin.firstCells ys.kind.size ys.len cx).run P w' = .ok ys.flat.toArray w' := by
 obtain ⟨a, cap, rfl, h1, h2, h3⟩ := L.lies
 by_cases hn : ys.len = 0
 · rw [hn, vN hn]
   cases a with
   | none => rfl
   | some ad => simp [Builtin.firstCells, loadCells, loadCellsFrom]
 · obtain ⟨b, o, rfl, hr⟩ := h3 hn
   refine run_firstCells_some w' _ _ _ _ _ ys.flat ys.flat_length fun j v hj => ?_
   rw [aEu hw]; exact hr.add j v hj

theorem aGc {ys : Lst} {cx : Value} (L : Lies X ys cx) (w' : World) : (Builtin.lenOf cx).run P w' = .ok ys.len w' := by
 obtain ⟨a, cap, rfl, _⟩ := L.lies; rfl

inductive mA (P : Program) (X : Cx) (e : LK) (U : TypeId) : Lst → Value → Prop where
 | sl (E2 : TypeId) (ys : Lst) (c : Value) (hu : P.underlying U = some (.slice E2)) (hk : ys.kind = e) (L : Lies X ys c) : mA P X e U ys c
 | zs (k k' : IntKind) (n : Int) (hu : P.underlying U = some (.int k)) (h0 : 0 ≤ n) (h1 : n ≤ 1099511627776) : mA P X e U (e.zeros n.toNat) (.int k' n)

theorem mA.kind {e : LK} {U : TypeId} {ys : Lst} {c : Value} (h : mA P X e U ys c) : ys.kind = e := by
 cases h with
 | sl E2 ys c hu hk L => exact hk
 | zs k k' n hu h0 h1 => exact iS e _

theorem aCQ {T U E ty : TypeId} {e : LK} {ys : Lst} {cx : Value} (hu : P.underlying T = some (.slice E)) (he : elB P E e = true) (A : mA P X e U ys cx) (base : Option Addr) (sLen sCap : Nat) (hroom : sLen + ys.len ≤ sCap) :
   (Builtin.append_ #[T, U] ty #[.slice base sLen sCap, cx]).run P X.w =
     ((match base with | some a => storeCells (a.add (sLen * e.size)) ys.flat | none => pure ()).run P X.w).andThen fun _ w' => .ok (.slice base (sLen + ys.len) sCap) w' := by
 obtain ⟨i, z, hi, hs, hb, hz, hzc⟩ := (elOk he).info
 have hes : (Go.sizeOf E).run P X.w = .ok e.size X.w := nH he X.w
 cases A with
 | sl E2 ys c hu2 hk L =>
   have hfc := sU (P := P) L (w' := X.w) rfl
   rw [hk] at hfc
   have hlen := aGc (P := P) L X.w
   cases base <;> simp [Builtin.append_, run_underlying hu, run_underlying hu2, hes, hlen, hroom, hfc]
 | zs k k' n hu2 h0 h1 =>
   rw [jF] at hroom ⊢
   have wn : IntKind.i64.wrap n = n := by rw [IntKind.wrap_i64]; omega
   have n1 : ¬ n < 0 := by omega
   have n2 : ¬ (281474976710656 < n * (i.bytes : Int)) := by
     have h3 : (i.bytes : Int) ≤ 64 := by omega
     have h5 : n * (i.bytes : Int) ≤ n * 64 := Int.mul_le_mul_of_nonneg_left h3 h0
     omega
   have hzero : (zeroValue E).run P X.w = .ok z X.w := by simp [zeroValue, typeInfo, hi, hz]
   have hzs : z.cells.size = e.size := by rw [← Array.length_toList, hzc, Lst.cell_length, iS]
   have hfl : (Builtin.zeroCells z.cells n.toNat).toList = (e.zeros n.toNat).flat := by
     rw [← tI hzc]; simp [Builtin.zeroCells, madeCells, hzs]
   by_cases hn0 : n.toNat * e.size = 0
   · have hflat : (e.zeros n.toNat).flat = [] := List.eq_nil_of_length_eq_zero (by rw [Lst.flat_length, jF, iS]; exact hn0)
     cases base <;> simp [Builtin.append_, run_underlying hu, run_underlying hu2, hes, asInt, asIntOf, typeInfo, hi, wn, n1, n2, hroom, hn0, hflat]
   · cases base <;> simp [Builtin.append_, run_underlying hu, run_underlying hu2, hes, asInt, asIntOf, typeInfo, hi, wn, n1, n2, hroom, hn0, hzero, hfl]

theorem aBB {T U E ty : TypeId} {e : LK} {ys : Lst} {cx : Value} (hu : P.underlying T = some (.slice E)) (he : elB P E e = true) (A : mA P X e U ys cx) (base : Option Addr) (sLen sCap : Nat) (olds : List Value)
   (ho : ∀ w', w'.heap = X.w.heap → (Builtin.firstCells e.size sLen (.slice base sLen sCap)).run P w' = .ok olds.toArray w')
   (hg : sCap < sLen + ys.len) (hroom : sLen + ys.len ≤ 1099511627776) :
   ∃ cap w' rest, sLen + ys.len ≤ cap ∧ aAf X.w w' (.cells (olds ++ (ys.flat ++ rest)).toArray E) ∧ rest.length = (cap - (sLen + ys.len)) * e.size ∧
     (Builtin.append_ #[T, U] ty #[.slice base sLen sCap, cx]).run P X.w = .ok (.slice (some ⟨X.w.heap.size, 0, none⟩) (sLen + ys.len) cap) w' := by
 obtain ⟨i, z, hi, hs, hb, hz, hzc⟩ := (elOk he).info
 have hes : ∀ w, (Go.sizeOf E).run P w = .ok e.size w := fun w => nH he w
 have hzs : z.cells.size = e.size := by rw [← Array.length_toList, hzc, Lst.cell_length, iS]
 have hzero : ∀ w, (zeroValue E).run P w = .ok z w := fun w => by simp [zeroValue, typeInfo, hi, hz]
 have hfit : Builtin.nextslicecap (sLen + ys.len) sCap * i.bytes ≤ 281474976710656 := growslice_fits hg (by
   have : (sLen + ys.len) * i.bytes ≤ 1099511627776 * 64 := Nat.mul_le_mul hroom hb
   omega)
 let cap := grownCap X.w (sLen + ys.len) sCap E
 refine ⟨cap, X.w.drew.alloc (.cells (olds ++ (ys.flat ++ (Builtin.zeroCells z.cells (cap - (sLen + ys.len))).toList)).toArray E), (Builtin.zeroCells z.cells (cap - (sLen + ys.len))).toList, grownCap_ge _ _ _ _, ⟨rfl, rfl, rfl, rfl⟩, ?_, ?_⟩
 · rw [Array.length_toList, size_zeroCells, hzs]
 have hn : ¬ (sLen + ys.len ≤ sCap) := by omega
 have hb0 : ∀ q : Prop, ¬ ((9223372036854775807 < ((sLen : Int) + (ys.len : Int))) ∧ q) := fun q h => by omega
 have h48' : ¬ (281474976710656 < Builtin.nextslicecap (sLen + ys.len) sCap * i.bytes) := by omega
 have ho' := ho X.w.drew rfl
 cases A with
 | sl E2 ys c hu2 hk L =>
   have hfc := sU (P := P) L (w' := X.w.drew) rfl
   rw [hk] at hfc
   have hlen := aGc (P := P) L X.w
   have hb1 : ¬ (9223372036854775807 < ((sLen : Int) + (ys.len : Int))) := by omega
   simp [Builtin.append_, run_underlying hu, run_underlying hu2, hes, hlen, hn, hb1, typeInfo, hi, h48', Question.forced, ho', hfc, hzero, newRow, cap, grownCap]
   congr 2
   apply Array.ext'
   simp
 | zs k k' n hu2 h0 h1 =>
   rw [jF] at hn h48' hb0 hg ⊢
   have wn : IntKind.i64.wrap n = n := by rw [IntKind.wrap_i64]; omega
   have n1 : ¬ n < 0 := by omega
   have n2 : ¬ (281474976710656 < n * (i.bytes : Int)) := by
     have h3 : (i.bytes : Int) ≤ 64 := by omega
     have h5 : n * (i.bytes : Int) ≤ n * 64 := Int.mul_le_mul_of_nonneg_left h3 h0
     omega
   have hfl : (Builtin.zeroCells z.cells n.toNat).toList = (e.zeros n.toNat).flat := by
     rw [← tI hzc]; simp [Builtin.zeroCells, madeCells, hzs]
   have hb1 : ¬ (9223372036854775807 < ((sLen : Int) + max n 0)) := by omega
   by_cases hn0 : n.toNat * e.size = 0
   · have hflat : (e.zeros n.toNat).flat = [] := List.eq_nil_of_length_eq_zero (by rw [Lst.flat_length, jF, iS]; exact hn0)
     simp [Builtin.append_, run_underlying hu, run_underlying hu2, hes, asInt, asIntOf, hn, hb1, typeInfo, hi, wn, n1, n2, h48', Question.forced, ho', hn0, hflat, hzero, newRow, cap, grownCap, jF]
     congr 2
     apply Array.ext'
     simp
   · simp [Builtin.append_, run_underlying hu, run_underlying hu2, hes, asInt, asIntOf, hn, hb1, typeInfo, hi, wn, n1, n2, h48', Question.forced, ho', hn0, hfl, hzero, newRow, cap, grownCap, jF]
     congr 2
     apply Array.ext'
     simp [hfl]
end
end Lam
namespace Lam
open Go

section
variable {P : Program} {X : Cx}

theorem aCR {α β : Type} {l : List α} {f g : α → List β} (h : ∀ x ∈ l, f x = g x) : l.flatMap f = l.flatMap g := by
 rw [List.flatMap_def, List.flatMap_def, List.map_congr_left h]

theorem aEa {f g : Nat → List Value} {n m : Nat} : (List.range (n + m)).flatMap (fun i => if i < n then f i else g (i - n)) = (List.range n).flatMap f ++ (List.range m).flatMap g := by
 rw [List.range_add, List.flatMap_append, List.flatMap_map]
 congr 1
 · apply aCR
   intro i hi
   simp [List.mem_range.1 hi]
 · apply aCR
   intro i hi
   have : ¬ (n + i < n) := by omega
   simp [this]

theorem vO {xs ys zs : Lst} (h : xs.app ys = some zs) : zs.len = xs.len + ys.len ∧ zs.kind = xs.kind ∧ ys.kind = xs.kind ∧ zs.flat = xs.flat ++ ys.flat := by
 have key : zs.len = xs.len + ys.len ∧ zs.kind = xs.kind ∧ ys.kind = xs.kind ∧ ∀ i, zs.cell i = if i < xs.len then xs.cell i else ys.cell (i - xs.len) := by
   unfold Lst.app at h
   split at h
   · split at h
     · rename_i k xs k' ys e; subst e; cases h
       refine ⟨by simp [Lst.len], rfl, rfl, fun i => ?_⟩
       simp only [Lst.cell, Lst.len, List.getD_eq_getElem?_getD, List.getElem?_append]
       split <;> rfl
     · cases h
   all_goals first | (cases h; done) | skip
   all_goals
     cases h
     refine ⟨by simp [Lst.len], rfl, rfl, fun i => ?_⟩
     simp only [Lst.cell, Lst.len, List.getD_eq_getElem?_getD, List.getElem?_append]
     split <;> rfl
 obtain ⟨h1, h2, h3, h4⟩ := key
 refine ⟨h1, h2, h3, ?_⟩
 unfold Lst.flat
 rw [h1, show zs.cell = fun i => if i < xs.len then xs.cell i else ys.cell (i - xs.len) from funext h4]
 exact aEa

theorem aIf (l : Lst) : l.cut 0 l.len = l := by cases l <;> simp [Lst.cut, Lst.len]

theorem aEv (H : HR X) {s : Nat} (hd : X.h[s]? = some .dead) {l : Lst} {a : Option Addr} (hl : l.len = 0) : Good X (X.h.set s (.row .own 0 l)) (.sref false s 0 0 0) (.slice a 0 0) X.w := by
 have hs : s < X.h.length := (List.getElem?_eq_some_iff.1 hd).1
 have hmu := aIe H hd
 have hs2 : s < X.μ.length := by rw [H.len]; exact hs
 have U : Upd X ⟨X.S, X.μ.set s none, X.h.set s (.row .own 0 l), X.w⟩ s .dead (.row .own 0 l) none none :=
   { S := rfl, hh := rfl, mu := rfl, ho := hd, hb := hmu, heap := fun _ _ _ => rfl, grow := Nat.le_refl _, blk := .inl rfl, env := ⟨rfl, rfl, rfl⟩, own := fun k hk => (by cases hk), row := fun k ver l h => (by cases h), oth := fun _ => .inl rfl }
 refine ⟨⟨X.S, X.μ.set s none, X.h.set s (.row .own 0 l), X.w⟩, rfl, rfl, U.hr H fun E => .inl ⟨rfl, hl, by simp⟩, U.ext H, ?_⟩
 exact ⟨a, 0, 0, rfl, .own, 0, l, by simp [hs, rowO], Nat.le_refl _, fun _ => ⟨rfl, Nat.le_refl _, by simp, fun _ => rfl, fun _ => rfl, fun h => absurd rfl h⟩⟩

theorem aCS (H : HR X) {T U E ty : TypeId} {xs ys zs : Lst} {cs cx : Value} {n : Nat} (hu : P.underlying T = some (.slice E)) (he : elB P E xs.kind = true) (hd : X.h[n]? = some .dead)
   (L : Lies X xs cs) (hcap : ∃ a, cs = .slice a xs.len xs.len) (A : mA P X xs.kind U ys cx) (hz : xs.app ys = some zs) (hS : (0 < ys.len ∨ xs.len = 0) ∧ roomy zs.len) :
   ∃ r w', (Builtin.append_ #[T, U] ty #[cs, cx]).run P X.w = .ok r w' ∧ Good X (X.h.set n (.row .own 0 zs)) (.sref false n 0 0 zs.len) r w' := by
 obtain ⟨e1, e2, e3, e4⟩ := vO hz
 obtain ⟨hS1, hS2⟩ := hS
 unfold roomy at hS2
 obtain ⟨a, rfl⟩ := hcap
 by_cases hy : ys.len = 0
 · have hx0 : xs.len = 0 := by omega
   have := aCQ (P := P) (ty := ty) hu he A a xs.len xs.len (by omega)
   rw [vN hy] at this
   refine ⟨.slice a 0 0, X.w, ?_, ?_⟩
   · rw [this, hx0, hy]; cases a <;> simp [storeCells]
   · have h0 : zs.len = 0 := by omega
     rw [h0]; exact aEv H hd h0
 · obtain ⟨cap, w', rest, h1, h2, h3, h4⟩ := aBB (P := P) (ty := ty) hu he A a xs.len xs.len xs.flat (fun w' hw => sU L hw) (by omega) (by omega)
   refine ⟨_, w', h4, ?_⟩
   have := aBZ H hd (l := zs) (cs := (xs.flat ++ (ys.flat ++ rest)).toArray) (r := rest) (E := E) (n := xs.len + ys.len) (cap := cap) (x := false) h2 (by simp [e4]) (by omega) h1 (by
     simp only [List.size_toArray, List.length_append, Lst.flat_length, h3, e2, e3]
     rw [← Nat.add_assoc, ← Nat.add_mul, ← Nat.add_mul]; exact Nat.mul_le_mul_right _ (by omega)) (by simp)
   rwa [e1]

theorem aFu (H : HR X) {T U ty : TypeId} {d : TyD} {s x : AV} {cs cx : Value} {n : Nat} {S : Prop} {v : AV} {news : List AObj} (hT : tyB P d T = true) (hs : VV X s cs) (hd : X.h[n]? = some .dead)
   (A : ∀ e ys, d = .slice e → x.list X.h = some ys → ys.kind = e → mA P X e U ys cx) (h : fI d X.h s x n = some (S, v, news)) (hS : S) :
   ∃ o r w', news = [o] ∧ (Builtin.append_ #[T, U] ty #[cs, cx]).run P X.w = .ok r w' ∧ Good X (X.h.set n o) v r w' := by
 have fin : ∀ xs, Lies X xs cs → (∃ a, cs = .slice a xs.len xs.len) → d = .slice xs.kind → (fH (x.list X.h) fun ys => lT xs ys n) = some (S, v, news) →
     ∃ o r w', news = [o] ∧ (Builtin.append_ #[T, U] ty #[cs, cx]).run P X.w = .ok r w' ∧ Good X (X.h.set n o) v r w' := by
   intro xs L hc hdx hq
   subst hdx
   obtain ⟨E, hu, he⟩ := jN hT
   cases hy : x.list X.h with
   | none => simp [hy, fH] at hq
   | some ys =>
     simp only [hy, fH, lT] at hq
     cases hz : xs.app ys with
     | none => simp [hz] at hq
     | some zs =>
       simp only [hz, Option.some.injEq, Prod.mk.injEq] at hq
       obtain ⟨rfl, rfl, rfl⟩ := hq
       obtain ⟨r, w', h1, h2⟩ := aCS (P := P) (ty := ty) H hu he hd L hc (A _ ys rfl hy (vO hz).2.2.1) hz hS
       exact ⟨_, r, w', rfl, h1, h2⟩
 unfold fI at h
 split at h
 · rename_i xs
   have h2 := (eQ h).2
   have hk := wW (eQ h).1
   obtain ⟨a, cap, rfl, g1, g2, g3, g4⟩ := id hs
   exact fin xs (oT H hs rfl) ⟨a, by rw [g2 rfl]⟩ hk h2
 · rename_i id ver off len
   split at h
   rotate_left
   · cases h
   have h2 := (eQ h).2
   obtain ⟨k, ver', l, hrow, hdl⟩ := rM (eQ h).1
   clear h
   cases hl : mN (X.h[id]?) ver off len with
   | none => rw [hl] at h2; cases h2
   | some xs =>
     rw [hl] at h2
     simp only [fH] at h2
     have L : Lies X xs cs := oT H hs hl
     obtain ⟨k', l0, hrow', rfl⟩ := aEq hl
     rw [hrow] at hrow'; cases hrow'
     obtain ⟨a, m, cap, rfl, k2, ver2, l2, hl2, _, g⟩ := hs
     rw [hrow] at hl2; cases hl2
     obtain ⟨rfl, g1, g2, g3, _⟩ := g rfl
     have hlen : (l.cut off m).len = m := by rw [pL]; omega
     exact fin _ L ⟨a, by rw [hlen, g3 rfl]⟩ (by rw [oR]; exact hdl) h2
 · cases h

theorem aFv (H : HR X) {T U ty : TypeId} {d : TyD} {s x : AV} {cs cx : Value} {id : Nat} {o' : AObj} {S : Prop} {v : AV} (hT : tyB P d T = true) (hs : VV X s cs)
   (A : ∀ e ys, d = .slice e → x.list X.h = some ys → ys.kind = e → mA P X e U ys cx) (h : fW d X.h s x = some (S, v, id, o')) (hS : S) :
   ∃ r w', (Builtin.append_ #[T, U] ty #[cs, cx]).run P X.w = .ok r w' ∧ Good X (X.h.set id o') v r w' := by
 unfold fW at h
 split at h
 rotate_left
 · cases h
 rename_i id0 ver off len
 split at h
 rotate_left
 · cases h
 rename_i hfit
 obtain ⟨k, ver', l, hrow, rfl⟩ := rM hfit
 have ho := kZ hrow
 obtain ⟨E, hu, he⟩ := jN hT
 unfold uX at h
 split at h
 rotate_left
 · cases h
 rename_i ver2 l2 ys hrow2 hlist
 rw [ho] at hrow2
 cases hrow2
 split at h
 rotate_left
 · cases h
 rename_i hver
 subst hver
 split at h
 rotate_left
 · cases h
 rename_i zs hz
 cases h
 obtain ⟨rfl, rfl, hroomy⟩ := hS
 unfold roomy at hroomy
 obtain ⟨e1, e2, e3, e4⟩ := vO hz
 have A' := A _ ys rfl hlist e3
 have L : Lies X l cs := by
   have := oT H hs (l := l) (by simp only [AV.list, mN, ho, if_true, aIf])
   exact this
 have hs0 := hs
 obtain ⟨a, m, cap, rfl, k2, ver2, l3, hl3, _, g⟩ := hs0
 rw [hrow] at hl3; cases hl3
 obtain ⟨rfl, g1, g2, _, g4, g5⟩ := g rfl
 obtain ⟨b0, hb0, hor⟩ := H.obj _ _ ho
 have hnS : ∀ b, b0 = some b → ¬ X.S b := fun b hb hS => by
   subst hb
   obtain ⟨_, _, h⟩ := (H.live _ _ hb0).2 hS; rw [ho] at h; cases h
 have hid : id < X.h.length := (List.getElem?_eq_some_iff.1 ho).1
 have hidm : id < X.μ.length := by rw [H.len]; exact hid
 by_cases hg : l.len + ys.len ≤ cap
 · have hr := aCQ (P := P) (ty := ty) hu he A' a l.len cap hg
   by_cases hc0 : cap = 0
   · have hl0 : l.len = 0 := by omega
     have hy0 : ys.len = 0 := by omega
     rw [vN hy0] at hr
     refine ⟨.slice a 0 0, X.w, ?_, ?_⟩
     · rw [hr, hl0, hy0, hc0]; cases a <;> simp [storeCells]
     · have U : Upd X ⟨X.S, X.μ.set id b0, X.h.set id (.row .own (ver + 1) zs), X.w⟩ id (.row .own ver l) (.row .own (ver + 1) zs) b0 b0 :=
         { S := rfl, hh := rfl, mu := rfl, ho := ho, hb := hb0, heap := fun _ _ _ => rfl, grow := Nat.le_refl _, blk := .inl rfl, env := kJ.refl _, own := hnS
           row := fun k v l' h => by
             simp only [rowO, Option.some.injEq, Prod.mk.injEq] at h
             obtain ⟨rfl, rfl, rfl⟩ := h
             exact ⟨_, _, rfl, Nat.le_succ _, fun e => by omega, fun h => absurd rfl h⟩
           oth := fun h => by cases h }
       have hz0 : zs.len = 0 := by omega
       refine ⟨⟨X.S, X.μ.set id b0, X.h.set id (.row .own (ver + 1) zs), X.w⟩, rfl, rfl, U.hr H fun E => ?_, U.ext H, ?_⟩
       · rcases hor with ⟨h1, _, h3⟩ | ⟨b', cs', el, h1, h2, ⟨r, hr'⟩, h3⟩
         · exact .inl ⟨h1, hz0, h3⟩
         · exact .inr ⟨b', cs', el, h1, h2, ⟨r, by rw [hr', vN hl0, vN hz0]⟩, fun h => by cases h⟩
       · rw [hz0]
         exact ⟨a, 0, 0, rfl, .own, ver + 1, zs, by simp [hid, rowO], Nat.le_refl _, fun _ => ⟨rfl, Nat.le_refl _, by simp, fun _ => rfl, fun _ => rfl, fun h => absurd rfl h⟩⟩
   · obtain ⟨b, hb, rfl, hz2⟩ := g5 hc0
     rw [hb] at hb0; cases hb0
     obtain ⟨cur, el, r, hheap, hcur⟩ := tH H hrow hb
     simp only [Nat.zero_mul, Nat.zero_add] at hz2
     have hbs : cap * l.kind.size ≤ l.flat.length + r.length := by
       have : eU X.w b = cur.size := by unfold eU; rw [hheap]
       rw [this, ← Array.length_toList, hcur, List.length_append] at hz2; exact hz2
     have hyl : ys.flat.length ≤ r.length := by
       have h1 : (l.len + ys.len) * l.kind.size ≤ cap * l.kind.size := Nat.mul_le_mul_right _ hg
       rw [Nat.add_mul] at h1
       rw [Lst.flat_length] at hbs
       rw [Lst.flat_length, e3]; omega
     have hst := tW (P := P) (w := X.w) (g := b) (o := l.len * l.kind.size) (a := l.flat) (us := r.take ys.flat.length) (b := r.drop ys.flat.length) (vs := ys.flat) hheap (by rw [hcur, List.take_append_drop]) l.flat_length
       (by rw [List.length_take]; omega) (aAe ys)
     refine ⟨.slice (some ⟨b, 0, none⟩) (l.len + ys.len) cap, X.w.setRow b (l.flat ++ (ys.flat ++ r.drop ys.flat.length)).toArray, ?_, ?_⟩
     · rw [hr]; simp only [Nat.zero_mul, Addr.add_lit, Nat.zero_add, hst, Result.andThen_ok]
     · refine vM H ho hb hheap (hnS b rfl) ?_ (fun k v l' h => ?_) (fun h => by cases h) (fun Y hY _ E' hn => .inr ⟨b, _, el, rfl, hn, ⟨r.drop ys.flat.length, by simp [e4]⟩, fun h => by cases h⟩) (fun Y hY E' hμ hh hbs' => ?_)
       · rw [← Array.length_toList (xs := cur), hcur]; simp only [List.size_toArray, List.length_append, List.length_drop]; omega
       · simp only [rowO, Option.some.injEq, Prod.mk.injEq] at h
         obtain ⟨rfl, rfl, rfl⟩ := h
         exact ⟨_, _, rfl, Nat.le_succ _, fun e => by omega, fun h => absurd rfl h⟩
       · refine ⟨_, _, _, rfl, .own, ver + 1, zs, by rw [hh]; rfl, Nat.le_refl _, fun _ => ⟨e1.symm, by omega, by simp, fun h => (by cases h), fun h => (by cases h), fun _ => ⟨b, by rw [hμ]; exact hb, by simp, ?_⟩⟩⟩
         rw [hbs', Nat.zero_add, e2, ← Array.length_toList, hcur, List.length_append]; exact hbs
 · obtain ⟨cap', w', rest, h1, h2, h3, h4⟩ := aBB (P := P) (ty := ty) hu he A' a l.len cap l.flat (fun w' hw => by
     have := sU (P := P) L hw
     obtain ⟨a', cap', heq, _⟩ := L.lies
     exact this) (by omega) (by omega)
   refine ⟨_, w', h4, ?_⟩
   obtain ⟨h2, henv⟩ := h2
   have hnew : w'.heap[X.w.heap.size]? = some (.cells (l.flat ++ (ys.flat ++ rest)).toArray E) := by rw [h2]; simp
   have U : Upd X ⟨X.S, X.μ.set id (some X.w.heap.size), X.h.set id (.row .own (ver + 1) zs), w'⟩ id (.row .own ver l) (.row .own (ver + 1) zs) b0 (some X.w.heap.size) :=
     { S := rfl, hh := rfl, mu := rfl, ho := ho, hb := hb0
       heap := fun k hk _ => by simp only [h2, Array.getElem?_push]; rw [if_neg (by omega)]
       grow := by simp [h2]
       blk := .inr ⟨_, rfl, Nat.le_refl _, by simp [h2]⟩
       own := hnS
       env := henv
       row := fun k v l' h => by
         simp only [rowO, Option.some.injEq, Prod.mk.injEq] at h
         obtain ⟨rfl, rfl, rfl⟩ := h
         exact ⟨_, _, rfl, Nat.le_succ _, fun e => by omega, fun h => absurd rfl h⟩
       oth := fun h => by cases h }
   refine ⟨_, rfl, rfl, U.hr H fun E' => .inr ⟨_, _, E, rfl, hnew, ⟨rest, by simp [e4]⟩, fun h => by cases h⟩, U.ext H, ?_⟩
   refine ⟨_, _, _, rfl, .own, ver + 1, zs, by simp [hid, rowO], Nat.le_refl _, fun _ => ⟨e1.symm, by omega, by simp, fun h => (by cases h), fun h => (by cases h), fun _ => ⟨_, by simp [hidm]; rfl, by simp, ?_⟩⟩⟩
   simp only [eU, hnew, List.size_toArray, List.length_append, Lst.flat_length, h3, e2, e3]
   rw [← Nat.add_assoc, ← Nat.add_mul, ← Nat.add_mul]; exact Nat.mul_le_mul_right _ (by omega)
end
end Lam
namespace Lam
open Go

section
variable {P : Program} {X : Cx}

theorem yS (l : Lst) (a n : Nat) : (l.cut a n).flat = (l.flat.drop (a * l.kind.size)).take (n * l.kind.size) := by
 have hs := l.kind.size_pos
 apply List.ext_getElem?
 intro p
 have hlen := (l.cut a n).flat_length
 rw [pL, oR] at hlen
 by_cases hp : p < min n (l.len - a) * l.kind.size
 · have hq : p / l.kind.size < min n (l.len - a) := Nat.div_lt_of_lt_mul (by rwa [Nat.mul_comm])
   have hm : p % l.kind.size < l.kind.size := Nat.mod_lt _ hs
   have h1 := (l.cut a n).flat_get (i := p / l.kind.size) (j := p % l.kind.size) (by rw [pL]; exact hq) (by rw [oR]; exact hm)
   rw [oR, Nat.div_add_mod', aFU _ _ _ _ (Nat.lt_of_lt_of_le hq (Nat.min_le_left _ _))] at h1
   have h0 : a + p / l.kind.size < l.len := by
     generalize p / l.kind.size = q at hq
     omega
   have h2 := l.flat_get (i := a + p / l.kind.size) (j := p % l.kind.size) h0 hm
   have e : (a + p / l.kind.size) * l.kind.size + p % l.kind.size = a * l.kind.size + p := by
     rw [Nat.add_mul, Nat.add_assoc, Nat.div_add_mod']
   rw [e] at h2
   have hp2 : p < n * l.kind.size := Nat.lt_of_lt_of_le hp (Nat.mul_le_mul_right _ (by omega))
   rw [h1, ← h2, List.getElem?_take, if_pos hp2, List.getElem?_drop]
 · rw [List.getElem?_eq_none (by omega), List.getElem?_eq_none]
   rw [List.length_take, List.length_drop, Lst.flat_length]
   have : min (n * l.kind.size) (l.len * l.kind.size - a * l.kind.size) ≤ min n (l.len - a) * l.kind.size := by
     rw [← Nat.sub_mul]
     rcases Nat.le_total n (l.len - a) with h | h
     · rw [Nat.min_eq_left h]; omega
     · rw [Nat.min_eq_right h]; omega
   omega

theorem Lies.take {l : Lst} {c : Value} (L : Lies X l c) (n : Nat) (hn : n ≤ l.len) {w' : World} (hw : w'.heap = X.w.heap) : (Builtin.firstCells l.kind.size n c).run P w' = .ok (l.cut 0 n).flat.toArray w' := by
 obtain ⟨a, cap, rfl, h1, h2, h3⟩ := L.lies
 have hfl : (l.cut 0 n).flat.length = n * l.kind.size := by rw [Lst.flat_length, pL, oR]; congr 1; omega
 by_cases hz : n = 0
 · subst hz
   have : (l.cut 0 0).flat = [] := List.eq_nil_of_length_eq_zero (by rw [hfl, Nat.zero_mul])
   rw [this]
   cases a with
   | none => rfl
   | some ad => simp [Builtin.firstCells, loadCells, loadCellsFrom]
 · obtain ⟨b, o, rfl, hr⟩ := h3 (by omega)
   have := aAi (a := 0) (n := n) hr
   rw [Nat.zero_mul, Nat.add_zero] at this
   refine run_firstCells_some w' _ _ _ _ _ _ hfl fun j v hj => ?_
   rw [aEu hw]; exact this.add j v hj

theorem aEw {l ys l' : Lst} {off len : Nat} (h : l.over off len ys = some l') (hol : off + len ≤ l.len) : l'.len = l.len ∧ l'.kind = l.kind ∧ ys.kind = l.kind ∧
   l'.flat = l.flat.take (off * l.kind.size) ++ ((ys.cut 0 (min len ys.len)).flat ++ l.flat.drop ((off + min len ys.len) * l.kind.size)) := by
 unfold Lst.over at h
 split at h
 · rename_i z hz
   obtain ⟨a1, a2, a3, a4⟩ := vO hz
   obtain ⟨b1, b2, b3, b4⟩ := vO h
   simp only [pL, oR] at a1 a2 a3 b1 b2 b3
   refine ⟨by omega, b2.trans a2, a3, ?_⟩
   rw [b4, a4, yS l 0 off, yS l (off + min len ys.len)]
   have e1 : (ys.cut 0 len).flat = (ys.cut 0 (min len ys.len)).flat := by
     rw [yS, yS]
     simp only [Nat.zero_mul, List.drop_zero]
     rcases Nat.le_total len ys.len with h | h
     · rw [Nat.min_eq_left h]
     · rw [Nat.min_eq_right h, List.take_of_length_le, List.take_of_length_le]
       · rw [Lst.flat_length]; exact Nat.le_refl _
       · rw [Lst.flat_length]; exact Nat.mul_le_mul_right _ h
   rw [e1]
   simp only [Nat.zero_mul, List.drop_zero, List.append_assoc]
   congr 2
   apply List.take_of_length_le
   rw [List.length_drop, Lst.flat_length, ← Nat.sub_mul]
   exact Nat.le_refl _
 · cases h

theorem aEx (H : HR X) {id ver off len : Nat} {k : RK} {l l' ys : Lst} {x : Bool} {a : Option Addr} {n cap : Nat} {v : AV} {c : Value} (hrow : rowO (X.h[id]?) = some (k, ver, l)) (hk : k ≠ .fro)
   (hs : VV X (.sref x id ver off len) (.slice a n cap)) (h : l.over off len ys = some l') (hv : ∀ Y, VV Y v c) :
   n = len ∧ ∃ w', (match a with | some ad => storeCells ad (ys.cut 0 (min len ys.len)).flat | none => pure ()).run P X.w = .ok () w' ∧ Good X (X.h.set id (.row k ver l')) v c w' := by
 have ho := kZ hrow
 obtain ⟨a', n', cap', heq, k2, ver2, l2, hl2, _, g⟩ := hs
 cases heq
 rw [hrow] at hl2; cases hl2
 obtain ⟨rfl, g1, g2, g3, g4, g5⟩ := g rfl
 refine ⟨rfl, ?_⟩
 obtain ⟨e1, e2, e3, e4⟩ := aEw h g2
 obtain ⟨b0, hb0, hor⟩ := H.obj _ _ ho
 have hnS : ∀ b, b0 = some b → ¬ X.S b := fun b hb hS => by
   subst hb
   obtain ⟨_, _, h⟩ := (H.live _ _ hb0).2 hS; rw [ho] at h; cases h; exact hk rfl
 have hid : id < X.h.length := (List.getElem?_eq_some_iff.1 ho).1
 have hcl := (ys.cut 0 (min n ys.len)).flat_length
 rw [pL, oR, e3] at hcl
 have hcl : (ys.cut 0 (min n ys.len)).flat.length = min n ys.len * l.kind.size := by rw [hcl]; congr 1; omega
 by_cases hc0 : cap = 0
 · have hn0 : n = 0 := by omega
   subst hn0
   have hys : (ys.cut 0 (min 0 ys.len)).flat = [] := List.eq_nil_of_length_eq_zero (by rw [hcl]; simp)
   have hfl : l'.flat = l.flat := by rw [e4, hys]; simp
   rw [hys]
   refine ⟨X.w, by cases a <;> simp [storeCells], ?_⟩
   have U : Upd X ⟨X.S, X.μ.set id b0, X.h.set id (.row k ver l'), X.w⟩ id (.row k ver l) (.row k ver l') b0 b0 :=
     { S := rfl, hh := rfl, mu := rfl, ho := ho, hb := hb0, heap := fun _ _ _ => rfl, grow := Nat.le_refl _, blk := .inl rfl, env := kJ.refl _, own := hnS
       row := fun k v l0 h => by
         simp only [rowO, Option.some.injEq, Prod.mk.injEq] at h
         obtain ⟨rfl, rfl, rfl⟩ := h
         exact ⟨_, _, rfl, Nat.le_refl _, fun _ => ⟨e1, e2, rfl, fun _ _ => Nat.le_refl _⟩, fun _ => rfl⟩
       oth := fun h => by cases h }
   refine ⟨⟨X.S, X.μ.set id b0, X.h.set id (.row k ver l'), X.w⟩, rfl, rfl, U.hr H fun E => ?_, U.ext H, hv _⟩
   rcases hor with ⟨h1, h2, h3⟩ | ⟨b', cs', el, h1, h2, ⟨r, hr'⟩, h3⟩
   · exact .inl ⟨h1, by omega, h3⟩
   · exact .inr ⟨b', cs', el, h1, h2, ⟨r, by rw [hr', hfl]⟩, h3⟩
 · obtain ⟨b, hb, rfl, hz2⟩ := g5 hc0
   rw [hb] at hb0; cases hb0
   obtain ⟨cur, el, r, hheap, hcur⟩ := tH H hrow hb
   have hmm : min n ys.len * l.kind.size ≤ l.flat.length - off * l.kind.size := by
     rw [Lst.flat_length, ← Nat.sub_mul]; exact Nat.mul_le_mul_right _ (by omega)
   have hoff : off * l.kind.size ≤ l.flat.length := by rw [Lst.flat_length]; exact Nat.mul_le_mul_right _ (by omega)
   have hsplit : l.flat = l.flat.take (off * l.kind.size) ++ ((l.flat.drop (off * l.kind.size)).take (min n ys.len * l.kind.size) ++ l.flat.drop ((off + min n ys.len) * l.kind.size)) := by
     rw [Nat.add_mul, ← List.drop_drop, List.take_append_drop, List.take_append_drop]
   have hst := tW (P := P) (w := X.w) (g := b) (o := off * l.kind.size) (a := l.flat.take (off * l.kind.size)) (us := (l.flat.drop (off * l.kind.size)).take (min n ys.len * l.kind.size))
     (b := l.flat.drop ((off + min n ys.len) * l.kind.size) ++ r) (vs := (ys.cut 0 (min n ys.len)).flat) hheap
     (by have h9 := congrArg (· ++ r) hsplit
         simp only [List.append_assoc] at h9
         rw [hcur]; exact h9) (by rw [List.length_take]; omega)
     (by rw [hcl, List.length_take, List.length_drop]; omega) (aAe _)
   refine ⟨_, hst, vM H ho hb hheap (hnS b rfl) ?_ (fun k v l0 h => ?_) (fun h => by cases h) (fun Y hY hS E' hn => .inr ⟨b, _, el, rfl, hn, ⟨r, by simp [e4]⟩, fun h => absurd h hk⟩) (fun Y _ _ _ _ _ => hv Y)⟩
   · rw [← Array.length_toList (xs := cur), hcur]
     have := congrArg List.length hsplit
     simp only [List.length_append] at this
     simp only [List.size_toArray, List.length_append, hcl]
     rw [this]
     have : ((l.flat.drop (off * l.kind.size)).take (min n ys.len * l.kind.size)).length = min n ys.len * l.kind.size := by rw [List.length_take, List.length_drop]; omega
     rw [this]; omega
   · simp only [rowO, Option.some.injEq, Prod.mk.injEq] at h
     obtain ⟨rfl, rfl, rfl⟩ := h
     exact ⟨_, _, rfl, Nat.le_refl _, fun _ => ⟨e1, e2⟩, fun _ => rfl⟩

theorem aIL (H : HR X) {T U ty : TypeId} {d : TyD} {s x : AV} {cs cx : Value} {id : Nat} {o' : AObj} {S : Prop} {v : AV} (hT : tyB P d T = true) (hs : VV X s cs) (hx : VV X x cx)
   (h : mD d X.h s x = some (S, v, id, o')) (hS : S) : ∃ r w', (Builtin.copy_ #[T, U] ty #[cs, cx]).run P X.w = .ok r w' ∧ Good X (X.h.set id o') v r w' := by
 unfold mD at h
 split at h
 rotate_left
 · cases h
 rename_i y id0 ver off len
 split at h
 rotate_left
 · cases h
 rename_i hfit
 obtain ⟨k, ver', l, hrow, rfl⟩ := rM hfit
 obtain ⟨E, hu, he⟩ := jN hT
 unfold yL at h
 split at h
 rotate_left
 · cases h
 rename_i k2 ver2 l2 ys hrow2 hlist
 rw [kZ hrow] at hrow2
 cases hrow2
 split at h
 rotate_left
 · cases h
 rename_i hc
 obtain ⟨rfl, hkf⟩ := hc
 split at h
 rotate_left
 · cases h
 rename_i l' hov
 cases h
 have L := oT H hx hlist
 have hs0 := hs
 obtain ⟨a, n, cap, rfl, k3, ver3, l3, hl3, _, g⟩ := hs0
 rw [hrow] at hl3; cases hl3
 obtain ⟨rfl, g1, g2, g3, g4, g5⟩ := g rfl
 obtain ⟨_, w', hst, hgood⟩ := aEx (P := P) (v := .int .i64 (min n ys.len : Nat)) (c := .int .i64 (min n ys.len : Nat)) H hrow hkf hs hov (fun Y => rfl)
 refine ⟨_, w', ?_, hgood⟩
 have hk := (aEw hov g2).2.2.1
 have hmin : Nat.min ys.len n = min n ys.len := Nat.min_comm _ _
 have hf := L.take (P := P) (min n ys.len) (by omega) (w' := X.w) rfl
 rw [hk] at hf
 have hln := aGc (P := P) L X.w
 have hes : (Go.sizeOf E).run P X.w = .ok l.kind.size X.w := nH he X.w
 cases a with
 | none =>
   have hst : X.w = w' := by simpa using hst
   subst hst
   simp [Builtin.copy_, run_underlying hu, hln, hes, hmin, hf, goInt]
 | some ad => simp [Builtin.copy_, run_underlying hu, hln, hes, hmin, hf, hst, goInt]

theorem aHr (H : HR X) {T ty : TypeId} {d : TyD} {s : AV} {cs : Value} {id : Nat} {o' : AObj} {S : Prop} {v : AV} (hT : tyB P d T = true) (hs : VV X s cs)
   (h : oA d X.h s = some (S, v, id, o')) (hS : S) : ∃ r w', (Builtin.clear_ #[T] ty #[cs]).run P X.w = .ok r w' ∧ Good X (X.h.set id o') v r w' := by
 unfold oA at h
 split at h
 rotate_left
 · cases h
 rename_i y id0 ver off len
 split at h
 rotate_left
 · cases h
 rename_i hfit
 obtain ⟨k, ver', l, hrow, rfl⟩ := rM hfit
 obtain ⟨E, hu, he⟩ := jN hT
 unfold aCy at h
 split at h
 rotate_left
 · cases h
 rename_i k2 ver2 l2 hrow2
 rw [kZ hrow] at hrow2
 cases hrow2
 split at h
 rotate_left
 · cases h
 rename_i hc
 obtain ⟨rfl, hkf⟩ := hc
 split at h
 rotate_left
 · cases h
 rename_i l' hov
 cases h
 have hs0 := hs
 obtain ⟨a, n, cap, rfl, k3, ver3, l3, hl3, _, g⟩ := hs0
 rw [hrow] at hl3; cases hl3
 obtain ⟨rfl, g1, g2, g3, g4, g5⟩ := g rfl
 obtain ⟨_, w', hst, hgood⟩ := aEx (P := P) (v := .tup []) (c := .tuple #[]) H hrow hkf hs hov (fun Y => by simp only [VV]; exact ⟨#[], rfl, by simp [VVs]⟩)
 obtain ⟨i, z, hi, hsz, hb, hz, hzc⟩ := (elOk he).info
 have hzero : (zeroValue E).run P X.w = .ok z X.w := by simp [zeroValue, typeInfo, hi, hz]
 have hzs : z.cells.size = l.kind.size := by rw [← Array.length_toList, hzc, Lst.cell_length, iS]
 have hfl : (Builtin.zeroCells z.cells n).toList = (l.kind.zeros n).flat := by
   rw [← tI hzc]; simp [Builtin.zeroCells, madeCells, hzs]
 have hcut : ((l.kind.zeros n).cut 0 (min n (l.kind.zeros n).len)).flat = (l.kind.zeros n).flat := by
   rw [jF, Nat.min_self]
   have := aIf (l.kind.zeros n)
   rw [jF] at this
   rw [this]
 rw [hcut] at hst
 refine ⟨_, w', ?_, hgood⟩
 cases a with
 | none =>
   have hst : X.w = w' := by simpa using hst
   subst hst
   simp [Builtin.clear_, run_underlying hu]
 | some ad =>
   by_cases hn : n = 0
   · subst hn
     have hnil : (l.kind.zeros 0).flat = [] := List.eq_nil_of_length_eq_zero (by rw [Lst.flat_length, jF]; simp)
     rw [hnil] at hst
     have hst : X.w = w' := by simpa [storeCells] using hst
     subst hst
     simp [Builtin.clear_, run_underlying hu]
   · obtain ⟨m, rfl⟩ : ∃ m, n = m + 1 := ⟨n - 1, by omega⟩
     simp [Builtin.clear_, run_underlying hu, hzero, hfl, hst]
end
end Lam
namespace Lam
open Go

section
variable {P : Program} {X : Cx}

inductive wG (P : Program) (K : TypeId) : Value → Prop where
 | int (n : Int) (hu : P.underlying K = some (.int .i64)) : wG P K (.int .i64 n)
 | str (s : aY) (hu : P.underlying K = some .string) : wG P K (.string (bstr s))

inductive pZ : Value → List MapEntry → Prop where
 | int (n : Int) (es : List MapEntry) (h : ∀ e ∈ es, ∃ k, e.key = .int .i64 k) : pZ (.int .i64 n) es
 | str (s : aY) (es : List MapEntry) (h : ∀ e ∈ es, ∃ k, e.key = .string (bstr k)) : pZ (.string (bstr s)) es

def pM (k : Value) : List MapEntry → Nat → Option (Nat × Value)
 | [], _ => none
 | e :: r, i => if kD k e.key = true then some (i, e.val) else pM k r (i + 1)

theorem pZ.tail {k : Value} {e : MapEntry} {es : List MapEntry} (h : pZ k (e :: es)) : pZ k es := by
 cases h with
 | int n es h => exact .int _ _ fun e he => h e (by simp [he])
 | str n es h => exact .str _ _ fun e he => h e (by simp [he])

theorem aGd (a b : aY) : (bstr a == bstr b) = decide (a = b) := by
 rw [beq_toListBytes, jS, jS, Bool.eq_iff_iff]; simp

theorem aCT {K : TypeId} {d : TypeDesc} {k : Value} (hK : wG P K k) (hu : P.underlying K = some d) : ∀ {es : List MapEntry} (i : Nat), pZ k es → Instr.findNow d k es i = some (pM k es i)
 | [], i, _ => rfl
 | e :: r, i, h => by
   have ih := aCT hK hu (es := r) (i + 1) h.tail
   have hs : Instr.sameNow d k e.key = some (kD k e.key) := by
     cases hK with
     | int n hu' =>
       rw [hu] at hu'; cases hu'
       cases h with
       | int n es h => obtain ⟨j, hj⟩ := h e (by simp); rw [hj]; simp only [Instr.sameNow, kD, if_true]; congr 1
     | str s hu' =>
       rw [hu] at hu'; cases hu'
       generalize hq : Value.string (bstr s) = q at h
       cases h with
       | int n es h => cases hq
       | str s' es h =>
         cases hq
         obtain ⟨j, hj⟩ := h e (by simp); rw [hj]
         simp only [Instr.sameNow, kD]
         congr 1
         rw [aGd]; rfl
   simp only [Instr.findNow, hs, pM]
   cases kD k e.key
   · simpa using ih
   · rfl

theorem aCU {k z : Value} : ∀ (es : List MapEntry) (i : Nat), jU k z es = match pM k es i with | some (_, v) => v | none => z
 | [], _ => rfl
 | e :: r, i => by
   simp only [jU, pM]
   split
   · rfl
   · exact aCU r (i + 1)

theorem wY {K : TypeId} {k : Value} (h : wG P K k) (b : Bool) (w : World) : (Instr.checkKey b 10000 K k).run P w = .ok () w := by
 have key : ∀ n, (Instr.checkKey b (n + 1) K k).run P w = .ok () w := fun n => by
   cases h with
   | int n hu => simp only [Instr.checkKey, Sem.run_bind, run_underlying hu, Result.andThen_ok, Sem.run_pure]
   | str s hu => simp only [Instr.checkKey, Sem.run_bind, run_underlying hu, Result.andThen_ok, Sem.run_pure]
 exact key 9999

theorem yT {K : TypeId} {k : Value} (h : wG P K k) {es : List MapEntry} (he : pZ k es) (w : World) : (Instr.findKey K k es).run P w = .ok (pM k es 0) w := by
 have key : ∀ d, P.underlying K = some d → (Instr.findKey K k es).run P w = .ok (pM k es 0) w := fun d hu => by
   simp only [Instr.findKey, Sem.run_bind, run_underlying hu, Result.andThen_ok, aCT h hu 0 he, Sem.run_pure]
 cases h with
 | int n hu => exact key _ hu
 | str s hu => exact key _ hu

theorem sM {w : World} {r : Nat} {es : Array MapEntry} {ck : Nat} (h : w.heap[r]? = some (.map es ck)) : (getObj r).run P w = .ok (.map es ck) w := by
 simp [getObj, Sem.run, h]

theorem uI {T K E : TypeId} {k z : Value} {r : Nat} {es : Array MapEntry} {ck : Nat} (hu : P.underlying T = some (.map K E)) (hk : wG P K k) (hE : (zeroValue E).run P X.w = .ok z X.w)
   (hr : X.w.heap[r]? = some (.map es ck)) (he : pZ k es.toList) : (Instr.lookup T (.map (some r)) k false).run P X.w = .ok (jU k z es.toList) X.w := by
 simp only [Instr.lookup, Sem.run_bind, run_underlying hu, Result.andThen_ok, sM hr, Sem.run_pure, wY hk, yT hk he]
 rw [aCU es.toList 0]
 cases pM k es.toList 0 with
 | none => simp [hE]
 | some p => rfl

theorem nK {m : MK} {K E : TypeId} (h : mapB P m K E = true) :
   (m = .sb → P.underlying K = some .string) ∧ (m ≠ .sb → P.underlying K = some (.int .i64)) ∧
   ∀ w, (zeroValue E).run P w = .ok (match m with | .ib => .bool false | .sb => .bool false | .ii => .int .i64 0 | .ifn => .nilFunc) w := by
 unfold mapB at h
 simp only [Bool.and_eq_true] at h
 obtain ⟨h1, h2⟩ := h
 refine ⟨?_, ?_, ?_⟩
 · rintro rfl
   split at h1 <;> simp_all
 · intro hm
   split at h1 <;> simp_all
 · intro w
   split at h2
   · cases h2
   · rename_i i hi
     split at h2 <;> first | cases h2 | skip
     all_goals (rename_i hz; simp [zeroValue, typeInfo, hi, hz])

theorem nL {d : TyD} {m : MK} (h : d.isMap m = true) : d = .map m := by
 unfold TyD.isMap at h
 split at h <;> first | rfl | cases h

theorem qZ (H : HR X) {id b : Nat} {m : MapC} (h : X.h[id]? = some (.map m)) (hb : X.μ[id]? = some (some b)) : ∃ es ck, X.w.heap[b]? = some (.map es ck) ∧ MapR m es := by
 obtain ⟨b0, hb0, b', es, ck, rfl, h1, h2⟩ := H.obj _ _ h
 rw [hb] at hb0; cases hb0
 exact ⟨es, ck, h1, h2⟩

theorem aLE (f : Option FuncId) : VV X (aCx f) (fnV f) := by
 cases f with
 | none => exact (rfl : _ = _)
 | some f => simp only [aCx, fnV, VV]; exact ⟨#[], #[], rfl, by simp [VVs], by simp [VVs]⟩

theorem aGe (H : HR X) {T : TypeId} {d : TyD} {x k : AV} {c ck : Value} {S : Prop} {v : AV} {news : List AObj} (hT : tyB P d T = true) (hx : VV X x c) (hk : VV X k ck)
   (h : lW d X.h x k = some (S, v, news)) (hS : S) : news = [] ∧ Pure P (Instr.lookup T c ck false) X v := by
 unfold lW at h
 split at h
 rotate_left
 · cases h
 rename_i id
 obtain ⟨b, hb, rfl, _⟩ : ∃ b, X.μ[id]? = some (some b) ∧ c = .map (some b) ∧ rowO (X.h[id]?) = none := hx
 unfold sK at h
 split at h
 · rename_i m n ho
   have h2 := (eQ h).2
   obtain rfl := nL (eQ h).1
   obtain ⟨rfl, rfl, rfl⟩ := eL h2
   obtain rfl : ck = .int .i64 n := hk
   obtain ⟨K, E, hu, hm⟩ := pX hT
   obtain ⟨_, k2, k3⟩ := nK hm
   obtain ⟨es, ck, hr, hM⟩ := qZ H ho hb
   exact ⟨rfl, _, uI hu (.int n (k2 (by simp))) (k3 _) hr (.int _ _ hM.1), hM.2 n⟩
 · rename_i m n ho
   have h2 := (eQ h).2
   obtain rfl := nL (eQ h).1
   obtain ⟨rfl, rfl, rfl⟩ := eL h2
   obtain rfl : ck = .int .i64 n := hk
   obtain ⟨K, E, hu, hm⟩ := pX hT
   obtain ⟨_, k2, k3⟩ := nK hm
   obtain ⟨es, ck, hr, hM⟩ := qZ H ho hb
   exact ⟨rfl, _, uI hu (.int n (k2 (by simp))) (k3 _) hr (.int _ _ hM.1), hM.2 n⟩
 · rename_i m n ho
   have h2 := (eQ h).2
   obtain rfl := nL (eQ h).1
   obtain ⟨rfl, rfl, rfl⟩ := eL h2
   obtain rfl : ck = .int .i64 n := hk
   obtain ⟨K, E, hu, hm⟩ := pX hT
   obtain ⟨_, k2, k3⟩ := nK hm
   obtain ⟨es, ck, hr, hM⟩ := qZ H ho hb
   refine ⟨rfl, _, uI hu (.int n (k2 (by simp))) (k3 _) hr (.int _ _ hM.1), ?_⟩
   rw [hM.2 n]; exact aLE _
 · rename_i m n ho
   have h2 := (eQ h).2
   obtain rfl := nL (eQ h).1
   obtain ⟨rfl, rfl, rfl⟩ := eL h2
   obtain rfl : ck = .string (bstr n) := hk
   obtain ⟨K, E, hu, hm⟩ := pX hT
   obtain ⟨k1, _, k3⟩ := nK hm
   obtain ⟨es, ck, hr, hM⟩ := qZ H ho hb
   exact ⟨rfl, _, uI hu (.str n (k1 rfl)) (k3 _) hr (.str _ _ hM.1), hM.2 n⟩
 · cases h
end
end Lam
namespace Lam
open Go

section
variable {P : Program} {X : Cx}

theorem aLF {k : Value} {e : MapEntry} {es : List MapEntry} (h : pZ k es) (he : e ∈ es) (hk : kD k e.key = true) : e.key = k := by
 cases h with
 | int n es h => obtain ⟨j, hj⟩ := h e he; rw [hj] at hk ⊢; simp [kD] at hk; rw [hk]
 | str n es h =>
   obtain ⟨j, hj⟩ := h e he; rw [hj] at hk ⊢
   simp only [kD, decide_eq_true_eq] at hk
   have : n = j := by simpa [bstr] using hk
   rw [this]

theorem aCV {k : Value} : ∀ {es : List MapEntry} {i j : Nat} {v : Value}, pM k es i = some (j, v) → ∃ pre e post, es = pre ++ e :: post ∧ j = i + pre.length ∧ kD k e.key = true ∧ e.val = v ∧ ∀ p ∈ pre, kD k p.key = false
 | [], _, _, _, h => by cases h
 | e :: r, i, j, v, h => by
   simp only [pM] at h
   split at h
   · rename_i hk; cases h; exact ⟨[], e, r, rfl, rfl, hk, rfl, by simp⟩
   · rename_i hk
     obtain ⟨pre, e', post, rfl, h2, h3, h4, h5⟩ := aCV h
     refine ⟨e :: pre, e', post, rfl, by simp; omega, h3, h4, fun p hp => ?_⟩
     rcases List.mem_cons.1 hp with rfl | hp
     · simpa using hk
     · exact h5 p hp

theorem aCW {k : Value} : ∀ {es : List MapEntry} {i : Nat}, pM k es i = none → ∀ p ∈ es, kD k p.key = false
 | [], _, _ => by simp
 | e :: r, i, h => by
   simp only [pM] at h
   split at h
   · cases h
   · rename_i hk
     intro p hp
     rcases List.mem_cons.1 hp with rfl | hp
     · simpa using hk
     · exact aCW h p hp

theorem aAl {q z : Value} : ∀ {pre post : List MapEntry}, (∀ p ∈ pre, kD q p.key = false) → jU q z (pre ++ post) = jU q z post
 | [], _, _ => rfl
 | p :: pre, post, h => by
   simp only [List.cons_append, jU, h p (by simp), Bool.false_eq_true, if_false]
   exact aAl fun x hx => h x (by simp [hx])

theorem aCX {q z : Value} {e e' : MapEntry} {post : List MapEntry} (h : kD q e.key = false) (h' : kD q e'.key = false) : ∀ pre : List MapEntry, jU q z (pre ++ e' :: post) = jU q z (pre ++ e :: post)
 | [] => by simp [jU, h, h']
 | p :: pre => by simp only [List.cons_append, jU, aCX h h' pre]

theorem aCY {q z : Value} {e : MapEntry} (h : kD q e.key = false) : ∀ es : List MapEntry, jU q z (es ++ [e]) = jU q z es
 | [] => by simp [jU, h]
 | p :: es => by simp only [List.cons_append, jU, aCY h es]

theorem aFw {k : Value} (h : ∃ K, wG P K k) : Instr.sameBits 10000 k k = true := by
 obtain ⟨K, h⟩ := h
 cases h with
 | int n hu => simp [Instr.sameBits]
 | str s hu => simp only [Instr.sameBits, aGd, decide_true]

theorem xQ {w : World} {r : Nat} {es : Array MapEntry} {ck : Nat} (h : w.heap[r]? = some (.map es ck)) (o : Obj) : (setObj r o).run P w = .ok () { w with heap := w.heap.setIfInBounds r o } := by
 simp [setObj, Sem.run, h]

theorem aBb {T K E : TypeId} {k : Value} {r : Nat} {es : Array MapEntry} {ck : Nat} (val : Value) (hu : P.underlying T = some (.map K E)) (hk : wG P K k)
   (hr : X.w.heap[r]? = some (.map es ck)) (he : pZ k es.toList) :
   ∃ es' ck', (Instr.mapUpdate T (.map (some r)) k val).run P X.w = .ok () { X.w with heap := X.w.heap.setIfInBounds r (.map es' ck') } ∧
     (∀ e ∈ es'.toList, e.key = k ∨ ∃ e0 ∈ es.toList, e.key = e0.key) ∧ (∀ z, jU k z es'.toList = val) ∧ ∀ q z, kD q k = false → jU q z es'.toList = jU q z es.toList := by
 have hkk : kD k k = true := by cases hk <;> simp [kD]
 cases hf : pM k es.toList 0 with
 | none =>
   have hno := aCW hf
   refine ⟨es.push { key := k, val := val, born := ck }, ck + 1, ?_, ?_, ?_⟩
   · simp only [Instr.mapUpdate, Sem.run_bind, run_underlying hu, Result.andThen_ok, sM hr, wY hk, yT hk he, hf, xQ hr]
   · intro e hmem
     rw [Array.toList_push] at hmem
     rcases List.mem_append.1 hmem with h | h
     · exact .inr ⟨e, h, rfl⟩
     · rw [List.mem_singleton.1 h]; exact .inl rfl
   · refine ⟨fun z => ?_, fun q z hq => ?_⟩
     · rw [Array.toList_push, aAl hno]; simp [jU, hkk]
     · rw [Array.toList_push, aCY hq]
 | some p =>
   obtain ⟨j, v⟩ := p
   obtain ⟨pre, e, post, hes, hj, hke, hv, hpre⟩ := aCV hf
   have hmem : e ∈ es.toList := by rw [hes]; simp
   have hkey := aLF he hmem hke
   simp only [Nat.zero_add] at hj
   have hget : es[j]? = some e := by rw [← Array.getElem?_toList, hes, hj]; simp
   have hmod : (es.modify j fun e => { e with key := k, val := val }).toList = pre ++ { e with key := k, val := val } :: post := by
     rw [Array.toList_modify, hes, hj]
     apply List.ext_getElem?
     intro m
     rw [List.getElem?_modify]
     by_cases hm : m < pre.length
     · have e1 : ¬ pre.length = m := by omega
       rw [List.getElem?_append_left hm, List.getElem?_append_left hm]; simp [e1]
     · rw [List.getElem?_append_right (by omega), List.getElem?_append_right (by omega)]
       by_cases hm2 : m = pre.length
       · subst hm2; simp
       · have e1 : ¬ pre.length = m := by omega
         obtain ⟨x, hx⟩ : ∃ x, m - pre.length = x + 1 := ⟨m - pre.length - 1, by omega⟩
         rw [hx]; simp [e1]
   refine ⟨es.modify j fun e => { e with key := k, val := val }, ck, ?_, ?_, ?_⟩
   · have hsame := aFw (P := P) (k := k) ⟨K, hk⟩
     simp only [Instr.mapUpdate, Sem.run_bind, run_underlying hu, Result.andThen_ok, sM hr, wY hk, yT hk he, hf, hget, Option.map_some, Option.getD_some, hkey, Instr.keyThatStays, hsame, if_true, Sem.run_pure, xQ hr]
   · intro x hx
     rw [hmod] at hx
     rcases List.mem_append.1 hx with h | h
     · exact .inr ⟨x, by rw [hes]; simp [h], rfl⟩
     · rcases List.mem_cons.1 h with rfl | h
       · exact .inl rfl
       · exact .inr ⟨x, by rw [hes]; simp [h], rfl⟩
   · refine ⟨fun z => ?_, fun q z hq => ?_⟩
     · rw [hmod, aAl hpre]; simp [jU, hkk]
     · rw [hmod, hes]
       exact aCX (by rw [hkey]; exact hq) hq pre

theorem sV (H : HR X) {id b : Nat} {m m' : MapC} {es es' : Array MapEntry} {ck ck' : Nat} (ho : X.h[id]? = some (.map m)) (hb : X.μ[id]? = some (some b)) (hg : X.w.heap[b]? = some (.map es ck)) (hM : MapR m' es') :
   Good X (X.h.set id (.map m')) .und undef { X.w with heap := X.w.heap.setIfInBounds b (.map es' ck') } := by
 have hlt : b < X.w.heap.size := (Array.getElem?_eq_some_iff.1 hg).1
 have U : Upd X ⟨X.S, X.μ.set id (some b), X.h.set id (.map m'), { X.w with heap := X.w.heap.setIfInBounds b (.map es' ck') }⟩ id (.map m) (.map m') (some b) (some b) :=
   { S := rfl, hh := rfl, mu := rfl, ho := ho, hb := hb
     heap := fun k _ hk => by
       simp only [Array.getElem?_setIfInBounds]
       rw [if_neg (fun e => hk (by rw [e]))]
     grow := by simp
     blk := .inl rfl
     env := ⟨rfl, rfl, rfl⟩, own := fun k hk hS => by
       cases hk
       obtain ⟨_, _, h⟩ := (H.live _ _ hb).2 hS; rw [ho] at h; cases h
     row := fun k ver l h => by cases h
     oth := fun _ => .inr ⟨rfl, rfl⟩ }
 refine ⟨⟨X.S, X.μ.set id (some b), X.h.set id (.map m'), { X.w with heap := X.w.heap.setIfInBounds b (.map es' ck') }⟩, rfl, rfl, U.hr H fun E => ⟨b, es', ck', rfl, ?_, hM⟩, U.ext H, rfl⟩
 simp [hlt]

theorem aGf {es es' : Array MapEntry} {n : Int} (hkeys : ∀ e ∈ es.toList, ∃ k, e.key = .int .i64 k)
   (h1 : ∀ e ∈ es'.toList, e.key = .int .i64 n ∨ ∃ e0 ∈ es.toList, e.key = e0.key) : ∀ e ∈ es'.toList, ∃ k, e.key = .int .i64 k := by
 intro e he
 rcases h1 e he with h | ⟨e0, h0, h⟩
 · exact ⟨n, h⟩
 · obtain ⟨k, hk⟩ := hkeys e0 h0; exact ⟨k, by rw [h, hk]⟩

theorem aAm (H : HR X) {T : TypeId} {d : TyD} {x k v : AV} {c ck cv : Value} {S : Prop} {id : Nat} {o' : AObj} (hT : tyB P d T = true) (hx : VV X x c) (hk : VV X k ck) (hv : VV X v cv)
   (h : jQ d X.h x k v = some (S, id, o')) (hS : S) : ∃ w', (Instr.mapUpdate T c ck cv).run P X.w = .ok () w' ∧ Good X (X.h.set id o') .und undef w' := by
 unfold jQ at h
 split at h
 rotate_left
 · cases h
 rename_i id0
 obtain ⟨b, hb, rfl, _⟩ : ∃ b, X.μ[id0]? = some (some b) ∧ c = .map (some b) ∧ rowO (X.h[id0]?) = none := hx
 split at h
 rotate_left
 · cases h
 rename_i m' hm'
 cases h
 unfold pI at hm'
 split at hm'
 · rename_i m n q ho
   split at hm'
   · rename_i hd
     cases hm'
     obtain rfl := nL hd
     obtain rfl : ck = .int .i64 n := hk
     obtain rfl : cv = .bool q := hv
     obtain ⟨K, E, hu, hm⟩ := pX hT
     obtain ⟨_, k2, k3⟩ := nK hm
     obtain ⟨es, ck0, hr, hM⟩ := qZ H ho hb
     obtain ⟨es', ck', g1, g2, g3, g4⟩ := aBb (P := P) (.bool q) hu (.int n (k2 (by simp))) hr (.int _ _ hM.1)
     refine ⟨_, g1, sV H ho hb hr ⟨aGf hM.1 g2, fun j => ?_⟩⟩
     by_cases e : j = n
     · subst e; rw [g3]; dsimp only; rw [if_pos rfl]
     · rw [g4 _ _ (by simpa [kD] using e), hM.2 j]; dsimp only; rw [if_neg e]
   · cases hm'
 · rename_i m n q ho
   split at hm'
   · rename_i hd
     cases hm'
     obtain rfl := nL hd
     obtain rfl : ck = .int .i64 n := hk
     obtain rfl : cv = .int .i64 q := hv
     obtain ⟨K, E, hu, hm⟩ := pX hT
     obtain ⟨_, k2, k3⟩ := nK hm
     obtain ⟨es, ck0, hr, hM⟩ := qZ H ho hb
     obtain ⟨es', ck', g1, g2, g3, g4⟩ := aBb (P := P) (.int .i64 q) hu (.int n (k2 (by simp))) hr (.int _ _ hM.1)
     refine ⟨_, g1, sV H ho hb hr ⟨aGf hM.1 g2, fun j => ?_⟩⟩
     by_cases e : j = n
     · subst e; rw [g3]; dsimp only; rw [if_pos rfl]
     · rw [g4 _ _ (by simpa [kD] using e), hM.2 j]; dsimp only; rw [if_neg e]
   · cases hm'
 · rename_i m n f ho
   split at hm'
   · rename_i hd
     cases hm'
     obtain rfl := nL hd
     obtain rfl : ck = .int .i64 n := hk
     obtain rfl : cv = fnV (some f) := by
       simp only [VV] at hv
       obtain ⟨a, d, rfl, h1, h2⟩ := hv
       simp only [VVs, Array.toList_eq_nil_iff] at h1 h2
       subst h1 h2; rfl
     obtain ⟨K, E, hu, hm⟩ := pX hT
     obtain ⟨_, k2, k3⟩ := nK hm
     obtain ⟨es, ck0, hr, hM⟩ := qZ H ho hb
     obtain ⟨es', ck', g1, g2, g3, g4⟩ := aBb (P := P) (fnV (some f)) hu (.int n (k2 (by simp))) hr (.int _ _ hM.1)
     refine ⟨_, g1, sV H ho hb hr ⟨aGf hM.1 g2, fun j => ?_⟩⟩
     by_cases e : j = n
     · subst e; rw [g3]; dsimp only; rw [if_pos rfl]
     · rw [g4 _ _ (by simpa [kD] using e), hM.2 j]; dsimp only; rw [if_neg e]
   · cases hm'
 · rename_i m n q ho
   split at hm'
   · rename_i hd
     cases hm'
     obtain rfl := nL hd
     obtain rfl : ck = .string (bstr n) := hk
     obtain rfl : cv = .bool q := hv
     obtain ⟨K, E, hu, hm⟩ := pX hT
     obtain ⟨k1, _, k3⟩ := nK hm
     obtain ⟨es, ck0, hr, hM⟩ := qZ H ho hb
     obtain ⟨es', ck', g1, g2, g3, g4⟩ := aBb (P := P) (.bool q) hu (.str n (k1 rfl)) hr (.str _ _ hM.1)
     refine ⟨_, g1, sV H ho hb hr ⟨fun e he => ?_, fun j => ?_⟩⟩
     · rcases g2 e he with h | ⟨e0, h0, h⟩
       · exact ⟨n, h⟩
       · obtain ⟨k, hk⟩ := hM.1 e0 h0; exact ⟨k, by rw [h, hk]⟩
     · by_cases e : j = n
       · subst e; rw [g3]; dsimp only; rw [if_pos rfl]
       · have hq : kD (.string (bstr j)) (.string (bstr n)) = false := decide_eq_false (by simpa [bstr] using e)
         rw [g4 _ _ hq, hM.2 j]; dsimp only; rw [if_neg e]
   · cases hm'
 · cases hm'
end
end Lam
namespace Lam
open Go

abbrev DR := Option (Prop × AV × List AObj × Option (Nat × AObj))

def ofD (x : D) : DR :=
 match x with
 | some (S, v, news) => some (S, v, news, none)
 | none => none
def ofH (x : Option (Prop × Nat × AObj)) : DR :=
 match x with
 | some (S, id, o) => some (S, .und, [], some (id, o))
 | none => none
def ofM (x : Option (Prop × AV × Nat × AObj)) : DR :=
 match x with
 | some (S, v, id, o) => some (S, v, [], some (id, o))
 | none => none
def ofDM (x : D) (y : Option (Prop × AV × Nat × AObj)) : DR :=
 match x with
 | some d => ofD (some d)
 | none => ofM y
def aFD (p : Prop) (x : DR) : DR :=
 match x with
 | some (S, r) => some (p ∧ S, r)
 | none => none
def aCZ (b : Bool) (x : DR) : DR :=
 match b with
 | true => x
 | false => none
def aIg (d : TyD) (s : Nat) : DR := some (oI d, .ptr s [], [boxO d.zero], none)
def aMu (d : TyD) (v : AV) (s : Nat) : DR := some (fitP d v, .ptr s [], [boxO v], none)

def xR (la : Option Nat) (x : Option (Bool × D)) (rows : List Nat) (s : Nat) (h : List AObj) : DR :=
 match x with
 | some (true, some (S, v, news)) => some (S, v.shift s, news, none)
 | some (false, some (S, v, _)) => match v.noSl with
   | true => some (S, v, [], none)
   | false => match rows with
     | [] => some (S, v, [], none)
     | [id] => match decide (la = some id) with
       | true => some (S, v, [], (h[id]?).map fun o => (id, froO o))
       | false => none
     | _ => none
 | _ => none

def qA (mt : Bool) (c : Ctx) (s : Nat) (f : AV) (args : List AV) (h : List AObj) : DR :=
 match f with
 | .fn (.func f) first cap => xR (oB mt args) (oO c f (AV.vals h (first ++ args ++ cap))) (AV.rowss (first ++ args ++ cap)) s h
 | _ => none

def nR (d e : TyD) (s x : AV) (h : List AObj) (n : Nat) : DR :=
 match e with
 | .slice _ => ofDM (fI d h s x n) (fW d h s x)
 | .int _ => match x with
   | .int .i64 m => aFD (0 ≤ m ∧ m ≤ 1099511627776) (ofDM (fI d h s (oP d m) n) (fW d h s (oP d m)))
   | _ => none
 | _ => none

def mQ (b : Builtin) (ds : List TyD) (args : List AV) (h : List AObj) (n : Nat) : DR :=
 match b, ds, args with
 | .len, [d], [v] => ofD (lenD d h v)
 | .min, _, [x, y] => ofD (minD x y)
 | .max, _, [x, y] => ofD (maxD x y)
 | .append, [d, e], [s, x] => nR d e s x h n
 | .copy, [ty, _], [d, s] => ofM (mD ty h d s)
 | .clear, [ty], [d] => ofM (oA ty h d)
 | _, _, _ => none

def lF (c : Ctx) (t : List (Nat × AV)) (cl : Call) : List AV := (cl.args.toList.zip cl.argTypes.toList).map fun p => ev t (c.tab p.2) p.1

def opD (c : Ctx) (apps : List Nat) (s : Nat) (t : List (Nat × AV)) (h : List AObj) (op : Op) (type : TypeId) : DR :=
 match op with
 | .move x => some (True, ev t (c.tab type) x, [], none)
 | .assign x => some (True, ev t (c.tab type) x, [], none)
 | .pick cnd a b => ofD (bK (ev t .bool cnd) (ev t .bool a) (ev t .bool b))
 | .alloc T => aIg (c.tab T) s
 | .box T x => aMu (c.tab T) (ev t (c.tab T) x) s
 | .build T parts => ofD (gT (c.tab T) (parts.toList.map fun p => (p.1, ev t ((c.tab T).field p.1) p.2)))
 | .buildSlice T n parts => ofD (eN (c.tab T) n (parts.toList.map fun p => (p.1, ev t .other p.2)) s)
 | .load T a => ofD (fitD (c.tab T) (aD h (ev t .ptr a)))
 | .store T a v => ofH (aO (c.tab T) h (ev t .ptr a) (ev t (c.tab T) v))
 | .nilCheck x => ofD (cV (ev t .ptr x))
 | .binOp op xt x y _ => match nP y, op with
   | true, .eql => none
   | _, _ => ofD (binD (c.tab xt) op (ev t (c.tab xt) x) (ev t (c.tab xt) y))
 | .unOp op _ x => ofD (unD op (ev t .bool x))
 | .convert s d x => ofD (jK h (c.tab s) (c.tab d) (ev t (c.tab s) x))
 | .makeInterface T x => aCZ (c.tab T).known (some (True, .iface T (ev t (c.tab T) x), [], none))
 | .makeFunc fn first cap => some (True, .fn fn (first.toList.map (ev t .other)) (cap.toList.map (ev t .other)), [], none)
 | .makeMap T none => ofD (kQ (c.tab T) s)
 | .makeSlice T l cp => ofD (kC (c.tab T) (ev t (.int .i64) l) (ev t (.int .i64) cp) s)
 | .slice T x lo hi mx => ofD (dX (c.tab T) h (ev t (c.tab T) x) (lo.map (ev t (.int .i64))) (hi.map (ev t (.int .i64))) (mx.map (ev t (.int .i64))))
 | .fieldAddr T x f => ofD (aC (c.tab T) (ev t .ptr x) f)
 | .field T x f => ofD (aAb (c.tab T) (ev t (c.tab T) x) f)
 | .indexAddr T x i => ofD (aH (c.tab T) h (ev t (c.tab T) x) (ev t (.int .i64) i))
 | .index T x i => ofD (tB (c.tab T) (ev t (c.tab T) x) (ev t (.int .i64) i))
 | .lookup T x k false => ofD (lW (c.tab T) h (ev t .other x) (ev t (.int .i64) k))
 | .mapUpdate T x k v => ofH (jQ (c.tab T) h (ev t .other x) (ev t (.int .i64) k) (ev t .other v))
 | .insert T x k v => ofH (jQ (c.tab T) h (ev t .other x) (ev t (.int .i64) k) (ev t .other v))
 | .extract x i => ofD (aV (ev t .other x) i)
 | .call cl => match Nat.beq cl.args.toList.length cl.argTypes.toList.length with
   | false => none
   | true => match cl.callee with
     | .builtin b => mQ b (cl.argTypes.toList.map c.tab) (lF c t cl) h s
     | .value f => qA (xK apps cl.args.toList) c s (ev t .func f) (lF c t cl) h
     | _ => none
 | _ => none

def dY (h : List AObj) (m : Option (Nat × AObj)) : List AObj :=
 match m with
 | some (id, o) => h.set id o
 | none => h

def OkD (x : DR) (h : List AObj) (K : AV → List AObj → Prop) : Prop := ∃ S v news mm, x = some (S, v, news, mm) ∧ S ∧ K v (dY (h ++ news) mm)

theorem aBc {x : D} {h : List AObj} {K : AV → List AObj → Prop} (hr : runD x h K) : OkD (ofD x) h K := by
 unfold runD at hr; split at hr
 · exact ⟨_, _, _, _, rfl, hr.1, hr.2⟩
 · exact hr.elim
theorem aPw {x : Option (Prop × Nat × AObj)} {h : List AObj} {K : AV → List AObj → Prop} (hr : runH x h K) : OkD (ofH x) h K := by
 unfold runH at hr; split at hr
 · exact ⟨_, _, _, _, rfl, hr.1, by simpa [dY] using hr.2⟩
 · exact hr.elim
theorem aIM {x : Option (Prop × AV × Nat × AObj)} {h : List AObj} {K : AV → List AObj → Prop} (hr : runM x h K) : OkD (ofM x) h K := by
 unfold runM at hr; split at hr
 · exact ⟨_, _, _, _, rfl, hr.1, by simpa [dY] using hr.2⟩
 · exact hr.elim
theorem aKg {x : D} {y : Option (Prop × AV × Nat × AObj)} {h : List AObj} {K : AV → List AObj → Prop} (hr : jC x y h K) : OkD (ofDM x y) h K := by
 unfold jC at hr; split at hr
 · exact ⟨_, _, _, _, rfl, hr.1, hr.2⟩
 · exact aIM hr
theorem aMP {p : Prop} {x : DR} {h : List AObj} {K : AV → List AObj → Prop} (hp : p) (hr : OkD x h K) : OkD (aFD p x) h K := by
 obtain ⟨S, v, news, mm, rfl, hS, hK⟩ := hr
 exact ⟨_, _, _, _, rfl, ⟨hp, hS⟩, hK⟩

theorem aIN {d e : TyD} {s x : AV} {h : List AObj} {K : AV → List AObj → Prop} (hr : xJ d e s x h K) : OkD (nR d e s x h h.length) h K := by
 unfold xJ at hr; split at hr
 · exact aKg hr
 · split at hr
   · exact aMP hr.1 (aKg hr.2)
   · exact hr.elim
 · exact hr.elim

theorem aHs {b : Builtin} {ds : List TyD} {args : List AV} {h : List AObj} {K : AV → List AObj → Prop} (hr : aBT b ds args h K) : OkD (mQ b ds args h h.length) h K := by
 unfold aBT at hr; split at hr
 · exact aBc hr
 · exact aBc hr
 · exact aBc hr
 · exact aIN hr
 · exact aIM hr
 · exact aIM hr
 · exact hr.elim

inductive Spec (c : Ctx) (apps : List Nat) (t : List (Nat × AV)) (h : List AObj) (op : Op) (K KP : AV → List AObj → Prop) : Prop
 | nilEq (xt : TypeId) (x y : Operand) (b : TypeId) (hop : op = .binOp .eql xt x y b) (hn : nP y = true) (hs : (c.tab xt).slc = true) (hk : rH ((ev t (c.tab xt) x).len (c.tab xt) h) h K)
 | panic (x : Operand) (hop : op = .panic x) (hk : panW (ev t .iface x) h KP)
 | call (cl : Call) (f : Operand) (hop : op = .call cl) (hcal : cl.callee = .value f) (hl : cl.args.toList.length = cl.argTypes.toList.length)
     (hk : aQ (xK apps cl.args.toList) c (ev t .func f) (lF c t cl) h K KP)

theorem aMv {c : Ctx} {apps : List Nat} {t : List (Nat × AV)} {h : List AObj} {op : Op} {type : TypeId} {K KP : AV → List AObj → Prop} (hw : opW c apps t h op type K KP) :
   OkD (opD c apps h.length t h op type) h K ∨ Spec c apps t h op K KP := by
 unfold opW at hw
 split at hw
 case h_1 => exact .inl ⟨_, _, _, _, rfl, trivial, by simpa [dY] using hw⟩
 case h_2 => exact .inl ⟨_, _, _, _, rfl, trivial, by simpa [dY] using hw⟩
 case h_4 => exact .inl ⟨_, _, _, _, rfl, hw.1, by simpa [dY] using hw.2⟩
 case h_5 => exact .inl ⟨_, _, _, _, rfl, hw.1, by simpa [dY] using hw.2⟩
 case h_11 xt x y b =>
   cases hn : nP y with
   | false =>
     simp only [hn] at hw
     simp only [opD, hn]
     exact .inl (aBc hw)
   | true =>
     rename_i op
     by_cases ho : op = .eql
     · subst ho
       simp only [hn] at hw
       cases hs : (c.tab xt).slc with
       | false => simp only [hs, uE] at hw
       | true => simp only [hs, uE] at hw; exact .inr (.nilEq xt x y b rfl hn hs hw)
     · simp only [opD, hn]
       cases op <;> first | exact absurd rfl ho | (simp only [hn] at hw; exact .inl (aBc hw))
 case h_14 T x =>
   unfold opD
   cases hk : (c.tab T).known with
   | false => simp only [hk, uE] at hw
   | true => simp only [hk, uE] at hw; exact .inl ⟨True, .iface T (ev t (c.tab T) x), [], none, by simp only [hk, aCZ], trivial, by simpa [dY] using hw⟩
 case h_15 => exact .inl ⟨_, _, _, _, rfl, trivial, by simpa [dY] using hw⟩
 case h_27 x => exact .inr (.panic x rfl hw)
 case h_28 cl =>
   split at hw
   · exact hw.elim
   · rename_i hl
     split at hw
     · rename_i b hc
       simp only [opD, hl, hc]; exact .inl (aHs hw)
     · rename_i f hc
       exact .inr (.call cl f rfl hc (Nat.eq_of_beq_eq_true hl) hw)
     · exact hw.elim
 case h_29 => exact hw.elim
 all_goals first | exact .inl (aBc hw) | exact .inl (aPw hw)

theorem aDa (h : List AObj) (id : Nat) : dY h ((h[id]?).map fun o => (id, froO o)) = gU [id] h := by
 apply List.ext_getElem?
 intro i
 simp only [gU, List.getElem?_modify]
 cases ho : h[id]? with
 | none =>
   simp only [Option.map_none, dY]
   by_cases e : id = i
   · subst e; rw [ho]; rfl
   · simp [if_neg e]
 | some o =>
   have hlt := (List.getElem?_eq_some_iff.1 ho).1
   simp only [Option.map_some, dY, List.getElem?_set]
   by_cases e : id = i
   · subst e; simp only [if_true, hlt, ho]; rfl
   · simp [if_neg e]

theorem aMQ {mt : Bool} {c : Ctx} {f : AV} {args : List AV} {h : List AObj} {K KP : AV → List AObj → Prop} (hS : c.drawn = true) (hN : ∀ f args h K, ¬ c.envS f args h K) (hY : ∀ l args h K, ¬ c.envY l args h K) (hw : aQ mt c f args h K KP) :
   OkD (qA mt c h.length f args h) h K := by
 unfold aQ at hw; unfold qA
 split at hw
 · simp only
   unfold mE at hw; unfold xR
   split at hw
   · rename_i e; simp only [e]; exact ⟨_, _, _, _, rfl, hw.1, hw.2⟩
   · rename_i e; simp only [e]
     split at hw
     · rename_i hn
       simp only [hn]
       exact ⟨_, _, _, _, rfl, hw.1, by simpa [dY] using hw.2⟩
     · rename_i hn
       simp only [hn]
       obtain ⟨hr, hs, hk⟩ := hw
       rcases hr hS with h0 | h1
       · simp only [h0] at hk ⊢
         exact ⟨_, _, _, _, rfl, hs, by simpa [dY, gU] using hk⟩
       · cases hla : oB mt args with
         | none =>
           rw [hla] at h1
           rw [← h1] at hk ⊢
           exact ⟨_, _, _, _, rfl, hs, by simpa [dY, gU] using hk⟩
         | some id =>
           rw [hla] at h1
           rw [← h1] at hk ⊢
           simp only [Option.toList_some, decide_true]
           refine ⟨_, _, _, _, rfl, hs, ?_⟩
           rw [List.append_nil]
           have := aDa h id
           rw [this]; exact hk
   · exact hw.elim
   · exact (hN _ _ _ _ hw).elim
 · exact (hY _ _ _ _ hw).elim
 · exact hw.elim

/-! ### What is looked at -/
def gO (h h' : List AObj) (ids : List Nat) : Prop := ∀ id, id ∈ ids → h[id]? = h'[id]?

theorem gO.sub {h h' : List AObj} {ids js : List Nat} (a : gO h h' ids) (hs : ∀ j, j ∈ js → j ∈ ids) : gO h h' js := fun j hj => a j (hs j hj)

theorem gO.sref {h h' : List AObj} {x : Bool} {id ver off len : Nat} (a : gO h h' (AV.sref x id ver off len).ids) : h[id]? = h'[id]? := a id (by simp [AV.ids])
theorem gO.ptr {h h' : List AObj} {id : Nat} {p : List PS} (a : gO h h' (AV.ptr id p).ids) : h[id]? = h'[id]? := a id (by simp [AV.ids])
theorem gO.map {h h' : List AObj} {id : Nat} (a : gO h h' (AV.map id).ids) : h[id]? = h'[id]? := a id (by simp [AV.ids])

theorem aHt (d : TyD) (v : Value) : (AV.ofConst d v).ids = [] := by
 unfold AV.ofConst; split <;> first | rfl | (split <;> rfl)

theorem aKh (t : List (Nat × AV)) (d d' : TyD) (x : Operand) : (ev t d x).ids = (ev t d' x).ids := by
 cases x <;> simp [ev, aHt]

mutual
theorem uJ {h h' : List AObj} : ∀ {vs : List AV}, gO h h' (AV.idss vs) → AV.vals h vs = AV.vals h' vs
 | [], _ => rfl
 | v :: r, a => by
   simp only [AV.idss] at a
   simp only [AV.vals, aKi (a.sub fun j hj => List.mem_append_left _ hj), uJ (a.sub fun j hj => List.mem_append_right _ hj)]
theorem aKi {h h' : List AObj} : ∀ {v : AV}, gO h h' v.ids → v.val h = v.val h'
 | .sref x id ver off len, a => by simp only [AV.val, a id (by simp [AV.ids])]
 | .agg vs, a => by simp only [AV.ids] at a; simp only [AV.val, uJ a]
 | .tup vs, a => by simp only [AV.ids] at a; simp only [AV.val, uJ a]
 | .sl _ _, _ | .top, _ | .und, _ | .int _ _, _ | .bool _, _ | .str _, _ | .arr _, _ | .ep _ _ _, _ | .nilp, _ | .ptr _ _, _ | .map _, _ | .fn _ _ _, _ | .nilfn, _ | .iface _ _, _ | .niliface, _ => rfl
end

theorem uK {h h' : List AObj} {v : AV} (a : gO h h' v.ids) : v.list h = v.list h' := by
 cases v <;> first | rfl | (simp only [AV.list, a.sref])

theorem aKj {h h' : List AObj} {d : TyD} {v : AV} (a : gO h h' v.ids) : v.len d h = v.len d h' := by
 cases d <;> cases v <;> first | rfl | (simp only [AV.len, a.sref])

theorem aIO {h h' : List AObj} {v : AV} (a : gO h h' v.ids) : aD h v = aD h' v := by
 cases v <;> first | rfl | (simp only [aD, a.ptr])

theorem aHu {h h' : List AObj} {d : TyD} {a v : AV} (g : gO h h' a.ids) : aO d h a v = aO d h' a v := by
 cases a <;> first | rfl | (simp only [aO, g.ptr])

theorem aHv {h h' : List AObj} {d : TyD} {v : AV} {lo hi mx : Option AV} (a : gO h h' v.ids) : dX d h v lo hi mx = dX d h' v lo hi mx := by
 cases v with
 | ptr id p => cases p with
   | nil => simp only [dX, a id (by simp [AV.ids])]
   | cons _ _ => rfl
 | sref x id ver off len => simp only [dX, a id (by simp [AV.ids])]
 | _ => rfl

theorem aHw {h h' : List AObj} {d : TyD} {v i : AV} (a : gO h h' v.ids) : aH d h v i = aH d h' v i := by
 cases i with
 | int k n => cases v with
   | ptr id p => cases p with
     | nil => simp only [aH, a id (by simp [AV.ids])]
     | cons _ _ => rfl
   | sref x id ver off len => simp only [aH, a id (by simp [AV.ids])]
   | _ => rfl
 | _ => rfl

theorem aIP {h h' : List AObj} {d : TyD} {v k : AV} (a : gO h h' v.ids) : lW d h v k = lW d h' v k := by
 cases v <;> first | rfl | (simp only [lW, a.map])

theorem aAn {h h' : List AObj} {d : TyD} {x k v : AV} (a : gO h h' x.ids) : jQ d h x k v = jQ d h' x k v := by
 cases x <;> first | rfl | (simp only [jQ, a.map])

theorem aIQ {h h' : List AObj} {s d : TyD} {x : AV} (a : gO h h' x.ids) : jK h s d x = jK h' s d x := by
 have hx := uK a
 unfold jK
 split <;> first | rfl | rw [hx]

theorem zP {h h' : List AObj} {d : TyD} {s x : AV} {n : Nat} (a : gO h h' s.ids) (b : gO h h' x.ids) : fI d h s x n = fI d h' s x n := by
 have hx := uK b
 cases s with
 | sl f l => cases f <;> simp only [fI, hx]
 | sref f id ver off len => cases f <;> simp only [fI, hx, a id (by simp [AV.ids])]
 | _ => rfl

theorem zQ {h h' : List AObj} {d : TyD} {s x : AV} (a : gO h h' s.ids) (b : gO h h' x.ids) : fW d h s x = fW d h' s x := by
 have hx := uK b
 cases s with
 | sref f id ver off len => cases f <;> simp only [fW, hx, a id (by simp [AV.ids])]
 | _ => rfl

theorem aIR {h h' : List AObj} {d : TyD} {s x : AV} (a : gO h h' s.ids) (b : gO h h' x.ids) : mD d h s x = mD d h' s x := by
 have hx := uK b
 cases s with
 | sref f id ver off len => simp only [mD, hx, a id (by simp [AV.ids])]
 | _ => rfl

theorem aHx {h h' : List AObj} {d : TyD} {s : AV} (a : gO h h' s.ids) : oA d h s = oA d h' s := by
 cases s with
 | sref f id ver off len => simp only [oA, a id (by simp [AV.ids])]
 | _ => rfl

theorem aGg {h h' : List AObj} {d e : TyD} {s x : AV} {n : Nat} (a : gO h h' s.ids) (b : gO h h' x.ids) : nR d e s x h n = nR d e s x h' n := by
 unfold nR
 split
 · rw [zP a b, zQ a b]
 · split
   · rename_i k m
     have hz : (oP d m).ids = [] := by unfold oP; split <;> rfl
     rw [zP a (by rw [hz]; intro i hi; cases hi), zQ a (by rw [hz]; intro i hi; cases hi)]
   · rfl
 · rfl

theorem aFx {h h' : List AObj} {b : Builtin} {ds : List TyD} {args : List AV} {n : Nat} (a : gO h h' (AV.idss args)) : mQ b ds args h n = mQ b ds args h' n := by
 have e1 : ∀ x, args = [x] → gO h h' x.ids := by rintro x rfl; simpa [AV.idss] using a
 have e2 : ∀ x y, args = [x, y] → gO h h' x.ids ∧ gO h h' y.ids := by
   rintro x y rfl
   simp only [AV.idss, List.append_nil] at a
   exact ⟨a.sub fun j hj => List.mem_append_left _ hj, a.sub fun j hj => List.mem_append_right _ hj⟩
 unfold mQ
 split
 · rw [lenD, lenD, aKj (e1 _ rfl)]
 · rfl
 · rfl
 · exact aGg (e2 _ _ rfl).1 (e2 _ _ rfl).2
 · rw [aIR (e2 _ _ rfl).1 (e2 _ _ rfl).2]
 · rw [aHx (e1 _ rfl)]
 · rfl

def opVs (t : List (Nat × AV)) (op : Op) : List AV := op.operands.toList.map (ev t .other)

theorem aCb {vs : List AV} {v : AV} (h : v ∈ vs) : ∀ j, j ∈ v.ids → j ∈ AV.idss vs := by
 induction vs with
 | nil => cases h
 | cons u r ih =>
   intro j hj
   rcases List.mem_cons.1 h with rfl | h
   · exact List.mem_append_left _ hj
   · exact List.mem_append_right _ (ih h j hj)

theorem aEy {h h' : List AObj} {t : List (Nat × AV)} {op : Op} (a : gO h h' (AV.idss (opVs t op))) {x : Operand} (hx : x ∈ op.operands.toList) (d : TyD) : gO h h' (ev t d x).ids :=
 a.sub fun j hj => by
   rw [aKh t d .other] at hj
   exact aCb (List.mem_map_of_mem hx) j hj

theorem aBC (a b : List AV) : AV.idss (a ++ b) = AV.idss a ++ AV.idss b := by
 induction a with
 | nil => rfl
 | cons v r ih => simp [AV.idss, ih]

theorem yU {vs : List AV} {j : Nat} (h : j ∈ AV.idss vs) : ∃ v, v ∈ vs ∧ j ∈ v.ids := by
 induction vs with
 | nil => simp [AV.idss] at h
 | cons v r ih =>
   simp only [AV.idss, List.mem_append] at h
   rcases h with h | h
   · exact ⟨v, List.mem_cons_self, h⟩
   · obtain ⟨u, hu, hj⟩ := ih h; exact ⟨u, List.mem_cons_of_mem _ hu, hj⟩

theorem mJ (cl : Call) : (∀ x, x ∈ cl.args.toList → x ∈ (Op.call cl).operands.toList) ∧ ∀ f, cl.callee = .value f → f ∈ (Op.call cl).operands.toList := by
 constructor
 · intro x hx; cases h : cl.callee <;> simp_all [Op.operands, Call.operands]
 · intro f hf; simp [Op.operands, Call.operands, hf]

theorem wZ {h h' : List AObj} {c : Ctx} {t : List (Nat × AV)} {cl : Call} (a : gO h h' (AV.idss (opVs t (.call cl)))) : gO h h' (AV.idss (lF c t cl)) := by
 intro j hj
 obtain ⟨v, hv, hj⟩ := yU hj
 obtain ⟨p, hp, rfl⟩ := List.mem_map.1 hv
 exact aEy a ((mJ cl).1 p.1 (List.of_mem_zip hp).1) _ j hj

theorem aAo {c : Ctx} {apps : List Nat} {s : Nat} {t : List (Nat × AV)} {h h' : List AObj} {op : Op} {type : TypeId} (a : gO h h' (AV.idss (opVs t op))) : opD c apps s t h op type = opD c apps s t h' op type := by
 have g := fun x hx d => aEy a (x := x) hx d
 cases op with
 | load T x => simp only [opD, aIO (g x (by simp [Op.operands]) .ptr)]
 | store T x v => simp only [opD, aHu (g x (by simp [Op.operands]) .ptr)]
 | convert s d x => simp only [opD, aIQ (g x (by simp [Op.operands]) _)]
 | slice T x lo hi mx => simp only [opD, aHv (g x (by simp [Op.operands]) _)]
 | indexAddr T x i => simp only [opD, aHw (g x (by simp [Op.operands]) _)]
 | lookup T x k b => cases b <;> simp only [opD, aIP (g x (by simp [Op.operands]) .other)]
 | mapUpdate T x k v => simp only [opD, aAn (g x (by simp [Op.operands]) .other)]
 | insert T x k v => simp only [opD, aAn (g x (by simp [Op.operands]) .other)]
 | makeMap T r => cases r <;> rfl
 | call cl =>
   simp only [opD]
   split
   · rfl
   · split
     · exact aFx (wZ a)
     · rename_i f hc
       unfold qA
       split
       · rename_i q fn first cap hf
         rw [uJ (h' := h')]
         · unfold xR
           split
           · rfl
           · split
             · rfl
             · split
               · rfl
               · rename_i id hrow
                 split
                 · rename_i hla
                   have hla := of_decide_eq_true hla
                   have hid : id ∈ AV.idss (lF c t cl) := by
                     unfold oB at hla
                     split at hla
                     · rename_i he
                       cases hla
                       exact aCb (List.mem_of_getLast? he) _ (by simp [AV.ids])
                     · cases hla
                   rw [wZ a id hid]
                 · rfl
               · rfl
           · rfl
         · intro j hj
           rw [aBC, aBC] at hj
           simp only [List.mem_append] at hj
           have hfn : gO h h' (ev t .func f).ids := g f ((mJ cl).2 f hc) .func
           rw [hf] at hfn
           simp only [AV.ids] at hfn
           rcases hj with (hj | hj) | hj
           · exact hfn j (List.mem_append_left _ hj)
           · exact wZ a j hj
           · exact hfn j (List.mem_append_right _ hj)
       · rfl
     · rfl
 | _ => rfl

end Lam
namespace Lam
open Go

/-! ### Values by value -/
mutual
theorem jL {X Y : Cx} (hS : ∀ b, X.S b → Y.S b) (hw : ∀ b, X.S b → Y.w.heap[b]? = X.w.heap[b]?) : ∀ {v : AV} {c : Value}, v.closed = true → VV X v c → VV Y v c
 | .agg vs, c, hc, h => by
   simp only [VV] at h ⊢
   obtain ⟨cs, rfl, h⟩ := h
   exact ⟨cs, rfl, aEb hS hw (by simpa [AV.closed] using hc) h⟩
 | .tup vs, c, hc, h => by
   simp only [VV] at h ⊢
   obtain ⟨cs, rfl, h⟩ := h
   exact ⟨cs, rfl, sN hS hw (by simpa [AV.closed] using hc) h⟩
 | .fn f first cap, c, hc, h => by
   simp only [AV.closed, Bool.and_eq_true] at hc
   simp only [VV] at h ⊢
   obtain ⟨a, d, rfl, h1, h2⟩ := h
   exact ⟨a, d, rfl, sN hS hw hc.1 h1, sN hS hw hc.2 h2⟩
 | .arr _, _, _, h => h
 | .int _ _, _, _, h => h
 | .bool _, _, _, h => h
 | .str _, _, _, h => h
 | .nilp, _, _, h => h
 | .nilfn, _, _, h => h
 | .niliface, _, _, h => h
 | .sl x l, c, _, h => by
   obtain ⟨a, cap, rfl, h1, h2, h3, h4⟩ := h
   refine ⟨a, cap, rfl, h1, h2, h3, fun hn => ?_⟩
   obtain ⟨ad, ha, hs, hb, hr⟩ := h4 hn
   exact ⟨ad, ha, hs, hS _ hb, hr.of_heap (hw _ hb)⟩
 | .top, _, hc, _ | .und, _, hc, _ | .sref _ _ _ _ _, _, hc, _ | .ep _ _ _, _, hc, _ | .ptr _ _, _, hc, _ | .map _, _, hc, _ | .iface _ _, _, hc, _ => by cases hc
theorem sN {X Y : Cx} (hS : ∀ b, X.S b → Y.S b) (hw : ∀ b, X.S b → Y.w.heap[b]? = X.w.heap[b]?) : ∀ {vs : List AV} {cs : List Value}, AV.closeds vs = true → VVs X vs cs → VVs Y vs cs
 | [], _, _, h => by simpa only [VVs] using h
 | v :: r, _, hc, h => by
   simp only [AV.closeds, Bool.and_eq_true] at hc
   simp only [VVs] at h ⊢
   obtain ⟨c, d, rfl, h1, h2⟩ := h
   exact ⟨c, d, rfl, jL hS hw hc.1 h1, sN hS hw hc.2 h2⟩
theorem lJ {X Y : Cx} (hS : ∀ b, X.S b → Y.S b) (hw : ∀ b, X.S b → Y.w.heap[b]? = X.w.heap[b]?) : ∀ {v : AV} {cs : List Value}, v.closed = true → VC X v cs → VC Y v cs
 | .agg vs, cs, hc, h => by
   simp only [VC] at h ⊢
   exact aEb hS hw (by simpa [AV.closed] using hc) h
 | .tup vs, cs, hc, h => by simp only [VC] at h
 | .fn f first cap, cs, hc, h => by
   simp only [AV.closed, Bool.and_eq_true] at hc
   simp only [VC] at h ⊢
   obtain ⟨a, d, rfl, h1, h2⟩ := h
   exact ⟨a, d, rfl, sN hS hw hc.1 h1, sN hS hw hc.2 h2⟩
 | .arr _, _, _, h => by simpa only [VC] using h
 | .int _ _, _, _, h => by simp only [VC] at h ⊢; obtain ⟨c, rfl, h⟩ := h; exact ⟨c, rfl, h⟩
 | .bool _, _, _, h => by simp only [VC] at h ⊢; obtain ⟨c, rfl, h⟩ := h; exact ⟨c, rfl, h⟩
 | .str _, _, _, h => by simp only [VC] at h ⊢; obtain ⟨c, rfl, h⟩ := h; exact ⟨c, rfl, h⟩
 | .nilp, _, _, h => by simp only [VC] at h ⊢; obtain ⟨c, rfl, h⟩ := h; exact ⟨c, rfl, h⟩
 | .nilfn, _, _, h => by simp only [VC] at h ⊢; obtain ⟨c, rfl, h⟩ := h; exact ⟨c, rfl, h⟩
 | .niliface, _, _, h => by simp only [VC] at h ⊢; obtain ⟨c, rfl, h⟩ := h; exact ⟨c, rfl, h⟩
 | .sl x l, cs, _, h => by
   simp only [VC] at h ⊢
   obtain ⟨c, rfl, a, cap, rfl, h1, h2, h3, h4⟩ := h
   refine ⟨_, rfl, a, cap, rfl, h1, h2, h3, fun hn => ?_⟩
   obtain ⟨ad, ha, hs, hb, hr⟩ := h4 hn
   exact ⟨ad, ha, hs, hS _ hb, hr.of_heap (hw _ hb)⟩
 | .top, _, hc, _ | .und, _, hc, _ | .sref _ _ _ _ _, _, hc, _ | .ep _ _ _, _, hc, _ | .ptr _ _, _, hc, _ | .map _, _, hc, _ | .iface _ _, _, hc, _ => by cases hc
theorem aEb {X Y : Cx} (hS : ∀ b, X.S b → Y.S b) (hw : ∀ b, X.S b → Y.w.heap[b]? = X.w.heap[b]?) : ∀ {vs : List AV} {cs : List Value}, AV.closeds vs = true → VCs X vs cs → VCs Y vs cs
 | [], _, _, h => by simpa only [VCs] using h
 | v :: r, _, hc, h => by
   simp only [AV.closeds, Bool.and_eq_true] at hc
   simp only [VCs] at h ⊢
   obtain ⟨c, d, rfl, h1, h2⟩ := h
   exact ⟨c, d, rfl, lJ hS hw hc.1 h1, aEb hS hw hc.2 h2⟩
end


mutual
theorem aDb {X Y : Cx} : ∀ {v : AV} {c : Value}, v.noSl = true → VV X v c → VV Y v c
 | .agg vs, c, hc, h => by
   simp only [VV] at h ⊢
   obtain ⟨cs, rfl, h⟩ := h
   exact ⟨cs, rfl, aGh (by simpa [AV.noSl] using hc) h⟩
 | .tup vs, c, hc, h => by
   simp only [VV] at h ⊢
   obtain ⟨cs, rfl, h⟩ := h
   exact ⟨cs, rfl, uZ (by simpa [AV.noSl] using hc) h⟩
 | .fn f first cap, c, hc, h => by
   simp only [AV.noSl, Bool.and_eq_true] at hc
   simp only [VV] at h ⊢
   obtain ⟨a, d, rfl, h1, h2⟩ := h
   exact ⟨a, d, rfl, uZ hc.1 h1, uZ hc.2 h2⟩
 | .arr _, _, _, h => h
 | .int _ _, _, _, h => h
 | .bool _, _, _, h => h
 | .str _, _, _, h => h
 | .nilp, _, _, h => h
 | .nilfn, _, _, h => h
 | .niliface, _, _, h => h
 | .sl _ _, _, hc, _ | .top, _, hc, _ | .und, _, hc, _ | .sref _ _ _ _ _, _, hc, _ | .ep _ _ _, _, hc, _ | .ptr _ _, _, hc, _ | .map _, _, hc, _ | .iface _ _, _, hc, _ => by cases hc
theorem uZ {X Y : Cx} : ∀ {vs : List AV} {cs : List Value}, AV.noSls vs = true → VVs X vs cs → VVs Y vs cs
 | [], _, _, h => by simpa only [VVs] using h
 | v :: r, _, hc, h => by
   simp only [AV.noSls, Bool.and_eq_true] at hc
   simp only [VVs] at h ⊢
   obtain ⟨c, d, rfl, h1, h2⟩ := h
   exact ⟨c, d, rfl, aDb hc.1 h1, uZ hc.2 h2⟩
theorem aMR {X Y : Cx} : ∀ {v : AV} {cs : List Value}, v.noSl = true → VC X v cs → VC Y v cs
 | .agg vs, cs, hc, h => by
   simp only [VC] at h ⊢
   exact aGh (by simpa [AV.noSl] using hc) h
 | .tup vs, cs, hc, h => by simp only [VC] at h
 | .fn f first cap, cs, hc, h => by
   simp only [AV.noSl, Bool.and_eq_true] at hc
   simp only [VC] at h ⊢
   obtain ⟨a, d, rfl, h1, h2⟩ := h
   exact ⟨a, d, rfl, uZ hc.1 h1, uZ hc.2 h2⟩
 | .arr _, _, _, h => by simpa only [VC] using h
 | .int _ _, _, _, h => by simp only [VC] at h ⊢; obtain ⟨c, rfl, h⟩ := h; exact ⟨c, rfl, h⟩
 | .bool _, _, _, h => by simp only [VC] at h ⊢; obtain ⟨c, rfl, h⟩ := h; exact ⟨c, rfl, h⟩
 | .str _, _, _, h => by simp only [VC] at h ⊢; obtain ⟨c, rfl, h⟩ := h; exact ⟨c, rfl, h⟩
 | .nilp, _, _, h => by simp only [VC] at h ⊢; obtain ⟨c, rfl, h⟩ := h; exact ⟨c, rfl, h⟩
 | .nilfn, _, _, h => by simp only [VC] at h ⊢; obtain ⟨c, rfl, h⟩ := h; exact ⟨c, rfl, h⟩
 | .niliface, _, _, h => by simp only [VC] at h ⊢; obtain ⟨c, rfl, h⟩ := h; exact ⟨c, rfl, h⟩
 | .sl _ _, _, hc, _ | .top, _, hc, _ | .und, _, hc, _ | .sref _ _ _ _ _, _, hc, _ | .ep _ _ _, _, hc, _ | .ptr _ _, _, hc, _ | .map _, _, hc, _ | .iface _ _, _, hc, _ => by cases hc
theorem aGh {X Y : Cx} : ∀ {vs : List AV} {cs : List Value}, AV.noSls vs = true → VCs X vs cs → VCs Y vs cs
 | [], _, _, h => by simpa only [VCs] using h
 | v :: r, _, hc, h => by
   simp only [AV.noSls, Bool.and_eq_true] at hc
   simp only [VCs] at h ⊢
   obtain ⟨c, d, rfl, h1, h2⟩ := h
   exact ⟨c, d, rfl, aMR hc.1 h1, aGh hc.2 h2⟩
end

theorem aCc {X Y : Cx} (H : HR X) {x : Bool} {id ver off len : Nat} {c : Value} {l : Lst} (h : SrV X x id ver off len c) (hl : mN (X.h[id]?) ver off len = some l)
   (hr : ∀ b, X.μ[id]? = some (some b) → Y.S b ∧ Y.w.heap[b]? = X.w.heap[b]?) : SlV Y false l c := by
 have L := oT (x := .sref x id ver off len) H h hl
 obtain ⟨a, cap, rfl, h1, h2, h3⟩ := L.lies
 obtain ⟨a', n, cap', e, k, ver', l', hl', hv, g⟩ := h
 cases e
 have hver : ver = ver' := by
   rw [kZ hl'] at hl
   unfold mN at hl
   by_cases e : ver = ver'
   · exact e
   · simp [e] at hl
 have g6 := (g hver).2.2.2.2.2
 clear g
 refine ⟨a, cap, rfl, h1, fun h => (by cases h), h2, fun hn => ?_⟩
 have hcap : cap ≠ 0 := by clear g6; omega
 obtain ⟨b, o, rfl, hre⟩ := h3 hn
 obtain ⟨b', hb', hab, _⟩ := g6 hcap
 cases hab
 obtain ⟨q1, q2⟩ := hr _ hb'
 exact ⟨_, rfl, rfl, q1, hre.of_heap q2⟩

def oF (X Y : Cx) (ids : List Nat) : Prop := ∀ id, id ∈ ids → ∀ b, X.μ[id]? = some (some b) → Y.S b ∧ Y.w.heap[b]? = X.w.heap[b]?

theorem oF.left {X Y : Cx} {a b : List Nat} (h : oF X Y (a ++ b)) : oF X Y a := fun i hi => h i (List.mem_append_left _ hi)
theorem oF.right {X Y : Cx} {a b : List Nat} (h : oF X Y (a ++ b)) : oF X Y b := fun i hi => h i (List.mem_append_right _ hi)

theorem zR {h : List AObj} {v : AV} {r us : List AV} (e : AV.vals h (v :: r) = some us) : ∃ a b, us = a :: b ∧ v.val h = some a ∧ AV.vals h r = some b := by
 simp only [AV.vals] at e
 split at e
 · rename_i a b h1 h2; exact ⟨a, b, (Option.some.inj e).symm, h1, h2⟩
 · cases e

mutual
theorem valV {X Y : Cx} (H : HR X) (hS : ∀ b, X.S b → Y.S b) (hw : ∀ b, X.S b → Y.w.heap[b]? = X.w.heap[b]?) : ∀ {v u : AV} {c : Value}, oF X Y v.rows → v.val X.h = some u → u.closed = true → VV X v c → VV Y u c
 | .agg vs, u, c, hr, e, hc, h => by
   simp only [AV.val, Option.map_eq_some_iff] at e
   obtain ⟨us, e, rfl⟩ := e
   simp only [VV] at h ⊢
   obtain ⟨cs, rfl, h⟩ := h
   exact ⟨cs, rfl, valC H hS hw (by simpa [AV.rows] using hr) e (by simpa [AV.closed] using hc) h⟩
 | .tup vs, u, c, hr, e, hc, h => by
   simp only [AV.val, Option.map_eq_some_iff] at e
   obtain ⟨us, e, rfl⟩ := e
   simp only [VV] at h ⊢
   obtain ⟨cs, rfl, h⟩ := h
   exact ⟨cs, rfl, aIS H hS hw (by simpa [AV.rows] using hr) e (by simpa [AV.closed] using hc) h⟩
 | .sref x id ver off len, u, c, hr, e, _, h => by
   simp only [AV.val, Option.map_eq_some_iff] at e
   obtain ⟨l, e, rfl⟩ := e
   exact aCc H h e (hr id (by simp [AV.rows]))
 | .sl x l, u, c, _, e, hc, h => by
   simp only [AV.val, Option.some.injEq] at e; subst e
   obtain ⟨a, cap, rfl, h1, h2, h3, h4⟩ := jL (Y := Y) hS hw (v := .sl x l) rfl h
   exact ⟨a, cap, rfl, h1, fun h => (by cases h), h3, h4⟩
 | .fn f first cap, u, c, _, e, hc, h => by simp only [AV.val, Option.some.injEq] at e; subst e; exact jL hS hw hc h
 | .arr l, u, c, _, e, hc, h => by simp only [AV.val, Option.some.injEq] at e; subst e; exact jL hS hw hc h
 | .int k n, u, c, _, e, hc, h => by simp only [AV.val, Option.some.injEq] at e; subst e; exact jL hS hw hc h
 | .bool b, u, c, _, e, hc, h => by simp only [AV.val, Option.some.injEq] at e; subst e; exact jL hS hw hc h
 | .str s, u, c, _, e, hc, h => by simp only [AV.val, Option.some.injEq] at e; subst e; exact jL hS hw hc h
 | .nilp, u, c, _, e, hc, h => by simp only [AV.val, Option.some.injEq] at e; subst e; exact jL hS hw hc h
 | .nilfn, u, c, _, e, hc, h => by simp only [AV.val, Option.some.injEq] at e; subst e; exact jL hS hw hc h
 | .niliface, u, c, _, e, hc, h => by simp only [AV.val, Option.some.injEq] at e; subst e; exact jL hS hw hc h
 | .top, _, _, _, e, hc, _ | .und, _, _, _, e, hc, _ | .ep _ _ _, _, _, _, e, hc, _ | .ptr _ _, _, _, _, e, hc, _ | .map _, _, _, _, e, hc, _ | .iface _ _, _, _, _, e, hc, _ => by
   simp only [AV.val, Option.some.injEq] at e; subst e; cases hc
theorem aIS {X Y : Cx} (H : HR X) (hS : ∀ b, X.S b → Y.S b) (hw : ∀ b, X.S b → Y.w.heap[b]? = X.w.heap[b]?) : ∀ {vs us : List AV} {cs : List Value}, oF X Y (AV.rowss vs) → AV.vals X.h vs = some us → AV.closeds us = true → VVs X vs cs → VVs Y us cs
 | [], us, _, _, e, _, h => by simp only [AV.vals, Option.some.injEq] at e; subst e; simpa only [VVs] using h
 | v :: r, us, _, hr, e, hc, h => by
   obtain ⟨a, b, rfl, h1, h2⟩ := zR e
   simp only [AV.closeds, Bool.and_eq_true] at hc
   simp only [AV.rowss] at hr
   simp only [VVs] at h ⊢
   obtain ⟨c, d, rfl, g1, g2⟩ := h
   exact ⟨c, d, rfl, valV H hS hw hr.left h1 hc.1 g1, aIS H hS hw hr.right h2 hc.2 g2⟩
theorem aPx {X Y : Cx} (H : HR X) (hS : ∀ b, X.S b → Y.S b) (hw : ∀ b, X.S b → Y.w.heap[b]? = X.w.heap[b]?) : ∀ {v u : AV} {cs : List Value}, oF X Y v.rows → v.val X.h = some u → u.closed = true → VC X v cs → VC Y u cs
 | .agg vs, u, c, hr, e, hc, h => by
   simp only [AV.val, Option.map_eq_some_iff] at e
   obtain ⟨us, e, rfl⟩ := e
   simp only [VC] at h ⊢
   exact valC H hS hw (by simpa [AV.rows] using hr) e (by simpa [AV.closed] using hc) h
 | .tup vs, u, c, hr, e, hc, h => by simp only [VC] at h
 | .sref x id ver off len, u, cs, hr, e, _, h => by
   simp only [AV.val, Option.map_eq_some_iff] at e
   obtain ⟨l, e, rfl⟩ := e
   simp only [VC] at h ⊢
   obtain ⟨c, rfl, h⟩ := h
   exact ⟨c, rfl, aCc H h e (hr id (by simp [AV.rows]))⟩
 | .sl x l, u, cs, _, e, hc, h => by
   simp only [AV.val, Option.some.injEq] at e; subst e
   have h := lJ (Y := Y) hS hw (v := .sl x l) rfl h
   simp only [VC] at h ⊢
   obtain ⟨c, rfl, a, cap, rfl, h1, h2, h3, h4⟩ := h
   exact ⟨_, rfl, a, cap, rfl, h1, fun h => (by cases h), h3, h4⟩
 | .fn f first cap, u, c, _, e, hc, h => by simp only [AV.val, Option.some.injEq] at e; subst e; exact lJ hS hw hc h
 | .arr l, u, c, _, e, hc, h => by simp only [AV.val, Option.some.injEq] at e; subst e; exact lJ hS hw hc h
 | .int k n, u, c, _, e, hc, h => by simp only [AV.val, Option.some.injEq] at e; subst e; exact lJ hS hw hc h
 | .bool b, u, c, _, e, hc, h => by simp only [AV.val, Option.some.injEq] at e; subst e; exact lJ hS hw hc h
 | .str s, u, c, _, e, hc, h => by simp only [AV.val, Option.some.injEq] at e; subst e; exact lJ hS hw hc h
 | .nilp, u, c, _, e, hc, h => by simp only [AV.val, Option.some.injEq] at e; subst e; exact lJ hS hw hc h
 | .nilfn, u, c, _, e, hc, h => by simp only [AV.val, Option.some.injEq] at e; subst e; exact lJ hS hw hc h
 | .niliface, u, c, _, e, hc, h => by simp only [AV.val, Option.some.injEq] at e; subst e; exact lJ hS hw hc h
 | .top, _, _, _, e, hc, _ | .und, _, _, _, e, hc, _ | .ep _ _ _, _, _, _, e, hc, _ | .ptr _ _, _, _, _, e, hc, _ | .map _, _, _, _, e, hc, _ | .iface _ _, _, _, _, e, hc, _ => by
   simp only [AV.val, Option.some.injEq] at e; subst e; cases hc
theorem valC {X Y : Cx} (H : HR X) (hS : ∀ b, X.S b → Y.S b) (hw : ∀ b, X.S b → Y.w.heap[b]? = X.w.heap[b]?) : ∀ {vs us : List AV} {cs : List Value}, oF X Y (AV.rowss vs) → AV.vals X.h vs = some us → AV.closeds us = true → VCs X vs cs → VCs Y us cs
 | [], us, _, _, e, _, h => by simp only [AV.vals, Option.some.injEq] at e; subst e; simpa only [VCs] using h
 | v :: r, us, _, hr, e, hc, h => by
   obtain ⟨a, b, rfl, h1, h2⟩ := zR e
   simp only [AV.closeds, Bool.and_eq_true] at hc
   simp only [AV.rowss] at hr
   simp only [VCs] at h ⊢
   obtain ⟨c, d, rfl, g1, g2⟩ := h
   exact ⟨c, d, rfl, aPx H hS hw hr.left h1 hc.1 g1, valC H hS hw hr.right h2 hc.2 g2⟩
end

/-! ### Values of a new part of the heap -/
mutual
def AV.shOk : AV → Bool
 | .fn _ first cap => AV.closeds first && AV.closeds cap
 | .iface _ v => v.closed
 | .agg vs | .tup vs => AV.shOks vs
 | _ => true
def AV.shOks : List AV → Bool
 | [] => true
 | v :: r => v.shOk && AV.shOks r
end

structure Sh (Y Z : Cx) (s : Nat) : Prop where
 S : ∀ b, ¬ Y.S b
 w : Z.w = Y.w
 len : Y.μ.length = Y.h.length
 hh : ∀ (i : Nat) (o : AObj), Y.h[i]? = some o → Z.h[s + i]? = some o
 mu : ∀ (i : Nat) (b : Option Nat), Y.μ[i]? = some b → Z.μ[s + i]? = some b

section
variable {Y Z : Cx} {s : Nat}
theorem Sh.row (E : Sh Y Z s) {i : Nat} {r : RK × Nat × Lst} (h : rowO (Y.h[i]?) = some r) : rowO (Z.h[s + i]?) = some r := by
 obtain ⟨k, v, l⟩ := r
 rw [E.hh i _ (kZ h)]; rfl
theorem Sh.hrow (E : Sh Y Z s) {i : Nat} {b : Option Nat} (h : Y.μ[i]? = some b) : Z.h[s + i]? = Y.h[i]? := by
 have hl : i < Y.h.length := by rw [← E.len]; exact (List.getElem?_eq_some_iff.1 h).1
 obtain ⟨o, ho⟩ : ∃ o, Y.h[i]? = some o := ⟨_, List.getElem?_eq_getElem hl⟩
 rw [ho]; exact E.hh i o ho

theorem Sh.vb (E : Sh Y Z s) {v : AV} {c : Value} (hv : v.scalar = true) (hf : ∀ f a b, v ≠ .fn f a b) (hi : ∀ t u, v ≠ .iface t u) (h : VB Y v c) : VB Z (v.shift s) c := by
 cases v with
 | sl x l =>
   obtain ⟨a, cap, rfl, h1, h2, h3, h4⟩ := h
   exact ⟨a, cap, rfl, h1, h2, h3, fun hn => by obtain ⟨ad, _, _, hb, _⟩ := h4 hn; exact (E.S _ hb).elim⟩
 | ep l i fs => obtain ⟨b, o, _, _, hb, _⟩ := h; exact (E.S _ hb).elim
 | sref x id ver off len =>
   obtain ⟨a, n, cap, rfl, k, ver', l, hl, hv, g⟩ := h
   refine ⟨a, n, cap, rfl, k, ver', l, E.row hl, hv, fun e => ?_⟩
   obtain ⟨g1, g2, g3, g4, g5, g6⟩ := g e
   exact ⟨g1, g2, g3, g4, g5, fun hn => by obtain ⟨b, q1, q2, q3⟩ := g6 hn; exact ⟨b, E.mu _ _ q1, q2, by rw [E.w]; exact q3⟩⟩
 | ptr id p =>
   have fin : (∃ b, Y.μ[id]? = some (some b) ∧ c = .pointer (some ⟨b, offs p, none⟩) ∧ ∀ k ver l, rowO (Y.h[id]?) = some (k, ver, l) → k ≠ .own) →
       ∃ b, Z.μ[s + id]? = some (some b) ∧ c = .pointer (some ⟨b, offs p, none⟩) ∧ ∀ k ver l, rowO (Z.h[s + id]?) = some (k, ver, l) → k ≠ .own := by
     rintro ⟨b, q1, q2, q3⟩
     exact ⟨b, E.mu _ _ q1, q2, by rw [E.hrow q1]; exact q3⟩
   cases p with
   | nil => exact fin h
   | cons q r => cases q with
     | f _ _ => exact fin h
     | i _ _ _ =>
       obtain ⟨k, ver', l, hl, hv, ho, g⟩ := h
       exact ⟨k, ver', l, E.row hl, hv, ho, fun e => by obtain ⟨b, q1, q2⟩ := g e; exact ⟨b, E.mu _ _ q1, q2⟩⟩
 | map id =>
   obtain ⟨b, q1, q2, q3⟩ := h
   exact ⟨b, E.mu _ _ q1, q2, by rw [E.hrow q1]; exact q3⟩
 | fn f a b => exact (hf _ _ _ rfl).elim
 | iface t u => exact (hi _ _ rfl).elim
 | agg _ => cases hv
 | arr _ => cases hv
 | tup _ => cases hv
 | _ => exact h

mutual
theorem shV (E : Sh Y Z s) : ∀ {v : AV} {c : Value}, v.shOk = true → VV Y v c → VV Z (v.shift s) c
 | .agg vs, c, hk, h => by
   simp only [AV.shift, VV] at h ⊢
   obtain ⟨cs, rfl, h⟩ := h
   exact ⟨cs, rfl, shC E (by simpa [AV.shOk] using hk) h⟩
 | .tup vs, c, hk, h => by
   simp only [AV.shift, VV] at h ⊢
   obtain ⟨cs, rfl, h⟩ := h
   exact ⟨cs, rfl, shVs E (by simpa [AV.shOk] using hk) h⟩
 | .arr l, c, _, h => h
 | .fn f first cap, c, hk, h => jL (fun b hb => (E.S b hb).elim) (fun b hb => (E.S b hb).elim) (v := .fn f first cap) (by simpa [AV.shOk, AV.closed] using hk) h
 | .iface t v, c, hk, h => by
   simp only [AV.shift, VV] at h ⊢
   obtain ⟨u, rfl, h⟩ := h
   exact ⟨u, rfl, jL (fun b hb => (E.S b hb).elim) (fun b hb => (E.S b hb).elim) (by simpa [AV.shOk] using hk) h⟩
 | .top, c, _, h => trivial
 | .und, c, _, h => E.vb rfl (by intros; simp) (by intros; simp) (v := .und) h
 | .int k n, c, _, h => E.vb rfl (by intros; simp) (by intros; simp) (v := .int k n) h
 | .bool b, c, _, h => E.vb rfl (by intros; simp) (by intros; simp) (v := .bool b) h
 | .str b, c, _, h => E.vb rfl (by intros; simp) (by intros; simp) (v := .str b) h
 | .sl x l, c, _, h => E.vb rfl (by intros; simp) (by intros; simp) (v := .sl x l) h
 | .sref x a b d e, c, _, h => E.vb rfl (by intros; simp) (by intros; simp) (v := .sref x a b d e) h
 | .ep l i f, c, _, h => E.vb rfl (by intros; simp) (by intros; simp) (v := .ep l i f) h
 | .nilp, c, _, h => E.vb rfl (by intros; simp) (by intros; simp) (v := .nilp) h
 | .ptr i p, c, _, h => E.vb rfl (by intros; simp) (by intros; simp) (v := .ptr i p) h
 | .map i, c, _, h => E.vb rfl (by intros; simp) (by intros; simp) (v := .map i) h
 | .nilfn, c, _, h => E.vb rfl (by intros; simp) (by intros; simp) (v := .nilfn) h
 | .niliface, c, _, h => E.vb rfl (by intros; simp) (by intros; simp) (v := .niliface) h
theorem shVs (E : Sh Y Z s) : ∀ {vs : List AV} {cs : List Value}, AV.shOks vs = true → VVs Y vs cs → VVs Z (AV.shifts s vs) cs
 | [], _, _, h => by simpa only [VVs, AV.shifts] using h
 | v :: r, _, hk, h => by
   simp only [AV.shOks, Bool.and_eq_true] at hk
   simp only [AV.shifts, VVs] at h ⊢
   obtain ⟨c, d, rfl, g1, g2⟩ := h
   exact ⟨c, d, rfl, shV E hk.1 g1, shVs E hk.2 g2⟩
theorem shVC (E : Sh Y Z s) : ∀ {v : AV} {cs : List Value}, v.shOk = true → VC Y v cs → VC Z (v.shift s) cs
 | .agg vs, c, hk, h => by
   simp only [AV.shift, VC] at h ⊢
   exact shC E (by simpa [AV.shOk] using hk) h
 | .tup vs, c, hk, h => by simp only [VC] at h
 | .arr l, c, _, h => by simpa only [VC, AV.shift] using h
 | .fn f first cap, c, hk, h => lJ (fun b hb => (E.S b hb).elim) (fun b hb => (E.S b hb).elim) (v := .fn f first cap) (by simpa [AV.shOk, AV.closed] using hk) h
 | .iface t v, c, hk, h => by
   simp only [AV.shift, VC] at h ⊢
   obtain ⟨u, rfl, h⟩ := h
   exact ⟨u, rfl, jL (fun b hb => (E.S b hb).elim) (fun b hb => (E.S b hb).elim) (by simpa [AV.shOk] using hk) h⟩
 | .top, c, _, h => by simpa only [VC, AV.shift] using h
 | .und, c, _, h => by simp only [VC] at h
 | .int k n, c, _, h => by simp only [VC, AV.shift] at h ⊢; obtain ⟨c, rfl, h⟩ := h; exact ⟨c, rfl, E.vb rfl (by intros; simp) (by intros; simp) (v := .int k n) h⟩
 | .bool b, c, _, h => by simp only [VC, AV.shift] at h ⊢; obtain ⟨c, rfl, h⟩ := h; exact ⟨c, rfl, E.vb rfl (by intros; simp) (by intros; simp) (v := .bool b) h⟩
 | .str b, c, _, h => by simp only [VC, AV.shift] at h ⊢; obtain ⟨c, rfl, h⟩ := h; exact ⟨c, rfl, E.vb rfl (by intros; simp) (by intros; simp) (v := .str b) h⟩
 | .sl x l, c, _, h => by simp only [VC, AV.shift] at h ⊢; obtain ⟨c, rfl, h⟩ := h; exact ⟨c, rfl, E.vb rfl (by intros; simp) (by intros; simp) (v := .sl x l) h⟩
 | .sref x a b d e, c, _, h => by simp only [VC, AV.shift] at h ⊢; obtain ⟨c, rfl, h⟩ := h; exact ⟨c, rfl, E.vb rfl (by intros; simp) (by intros; simp) (v := .sref x a b d e) h⟩
 | .ep l i f, c, _, h => by simp only [VC, AV.shift] at h ⊢; obtain ⟨c, rfl, h⟩ := h; exact ⟨c, rfl, E.vb rfl (by intros; simp) (by intros; simp) (v := .ep l i f) h⟩
 | .nilp, c, _, h => by simp only [VC, AV.shift] at h ⊢; obtain ⟨c, rfl, h⟩ := h; exact ⟨c, rfl, E.vb rfl (by intros; simp) (by intros; simp) (v := .nilp) h⟩
 | .ptr i p, c, _, h => by simp only [VC, AV.shift] at h ⊢; obtain ⟨c, rfl, h⟩ := h; exact ⟨c, rfl, E.vb rfl (by intros; simp) (by intros; simp) (v := .ptr i p) h⟩
 | .map i, c, _, h => by simp only [VC, AV.shift] at h ⊢; obtain ⟨c, rfl, h⟩ := h; exact ⟨c, rfl, E.vb rfl (by intros; simp) (by intros; simp) (v := .map i) h⟩
 | .nilfn, c, _, h => by simp only [VC, AV.shift] at h ⊢; obtain ⟨c, rfl, h⟩ := h; exact ⟨c, rfl, E.vb rfl (by intros; simp) (by intros; simp) (v := .nilfn) h⟩
 | .niliface, c, _, h => by simp only [VC, AV.shift] at h ⊢; obtain ⟨c, rfl, h⟩ := h; exact ⟨c, rfl, E.vb rfl (by intros; simp) (by intros; simp) (v := .niliface) h⟩
theorem shC (E : Sh Y Z s) : ∀ {vs : List AV} {cs : List Value}, AV.shOks vs = true → VCs Y vs cs → VCs Z (AV.shifts s vs) cs
 | [], _, _, h => by simpa only [VCs, AV.shifts] using h
 | v :: r, _, hk, h => by
   simp only [AV.shOks, Bool.and_eq_true] at hk
   simp only [AV.shifts, VCs] at h ⊢
   obtain ⟨c, d, rfl, g1, g2⟩ := h
   exact ⟨c, d, rfl, shVC E hk.1 g1, shC E hk.2 g2⟩
end
end

/-! ### A part of the heap is laid -/
def eV {α : Type} : List α → Nat → List α → List α
 | h, _, [] => h
 | h, s, o :: r => eV (h.set s o) (s + 1) r

theorem vP {α : Type} : ∀ (r : List α) (h : List α) (s : Nat), (eV h s r).length = h.length
 | [], _, _ => rfl
 | o :: r, h, s => by simp [eV, vP r]

theorem rB {α : Type} : ∀ (r : List α) (h : List α) (s : Nat), (r ≠ [] → s + r.length ≤ h.length) → ∀ i, (eV h s r)[i]? = if s ≤ i ∧ i < s + r.length then r[i - s]? else h[i]?
 | [], h, s, _, i => by
   have : ¬ (s ≤ i ∧ i < s + ([] : List α).length) := by simp
   rw [if_neg this]; rfl
 | o :: r, h, s, hl, i => by
   have hl := hl (by simp)
   simp only [List.length_cons] at hl
   simp only [eV]
   rw [rB r _ _ (by intro _; simp; omega) i]
   simp only [List.length_cons]
   by_cases e : i = s
   · subst e
     rw [if_neg (by omega), if_pos (by omega), List.getElem?_set]
     simp; omega
   · rw [List.getElem?_set]
     by_cases h1 : s ≤ i ∧ i < s + (r.length + 1)
     · rw [if_pos h1, if_pos (by omega)]
       have : i - s = i - (s + 1) + 1 := by omega
       rw [this, List.getElem?_cons_succ]
     · rw [if_neg h1, if_neg (by omega), if_neg (Ne.symm e)]

end Lam
namespace Lam
open Go

def AObj.newOk : AObj → Bool
 | .row k _ _ => match k with
   | .fro => false
   | _ => true
 | .box v => v.closed
 | _ => true

def Ends (X0 : Cx) (fresh : Bool) (v : AV) (news : List AObj) (e : Ending) (w' : World) : Prop :=
 ∃ c, e = .returned c ∧ ∃ Y : Cx, Y.w = w' ∧ HR Y ∧ Ext X0 Y ∧
   match fresh with
   | true => Y.h = news ∧ (∀ o ∈ news, o.newOk = true) ∧ v.shOk = true ∧ HR ⟨fun _ => False, Y.μ, Y.h, Y.w⟩ ∧ VV ⟨fun _ => False, Y.μ, Y.h, Y.w⟩ v c
   | false => v.closed = true ∧ VV Y v c

structure FOk (P : Program) (envF : FuncId → List AV → Option (Bool × D)) : Prop where
 enter : ∀ f vs r, envF f vs = some r → ∀ (args : Array Value) (w : World), (callFunc f args).run P w = .ok (.enter f args) w
 spec : ∀ f vs b S v news, envF f vs = some (b, some (S, v, news)) → S → ∀ (X0 : Cx) (cs : Array Value), X0.h = [] → X0.μ = [] → HR X0 → VVs X0 vs cs.toList →
   Calls P f cs X0.w (Ends X0 b v news)

section
variable {ro : Option Nat} {P : Program} {X : Cx}

theorem hr0 {S : Nat → Prop} {w : World} (h : ∀ b, S b → b < w.heap.size) : HR ⟨S, [], [], w⟩ :=
 ⟨rfl, fun i o h => by simp at h, fun i j b h => by simp at h, fun i b h => by simp at h, h⟩

theorem yV (H : HR X) {S : Nat → Prop} (hS : ∀ b, X.S b → S b) {vs us : List AV} {cs : List Value} (hr : ∀ id ∈ AV.rowss vs, ∀ b, X.μ[id]? = some (some b) → S b)
   (hv : AV.vals X.h vs = some us) (hc : AV.closeds us = true) (h : VVs X vs cs) : VVs ⟨S, [], [], X.w⟩ us cs :=
 aIS H (Y := ⟨S, [], [], X.w⟩) hS (fun _ _ => rfl) (fun id hid b hb => ⟨hr id hid b hb, rfl⟩) hv hc h

theorem nS {S : Nat → Prop} {w : World} {Y : Cx} (E : Ext ⟨S, [], [], w⟩ Y) {b : Nat} (hb : b < w.heap.size) : Y.w.heap[b]? = w.heap[b]? := E.keep b hb fun i => by simp

theorem tJ (H : HR X) {Y : Cx} (E : Ext ⟨X.S, [], [], X.w⟩ Y) (HY : HR Y) : HR ⟨Y.S, X.μ, X.h, Y.w⟩ ∧ Ext X ⟨Y.S, X.μ, X.h, Y.w⟩ := by
 have hE : Ext X ⟨Y.S, X.μ, X.h, Y.w⟩ := by
   refine ⟨E.S, E.cells, fun b hb => ?_, fun i b h => .inl h, fun b hb _ => nS E hb, E.grow, fun i k ver l hl => ?_, fun i b h1 h2 => ⟨h2, h1⟩, E.env⟩
   · rcases E.new b hb with h | ⟨i, h⟩ | h
     · exact .inl h
     · simp at h
     · exact .inr (.inr h)
   · refine ⟨k, ver, l, hl, Nat.le_refl _, fun _ => ⟨rfl, rfl, fun b hb => ⟨hb, ?_⟩⟩, fun h => ⟨h, rfl⟩⟩
     have : Y.w.heap[b]? = X.w.heap[b]? := nS E (H.live _ _ hb).1
     simp only [eU, this]; exact Nat.le_refl _
 refine ⟨⟨H.len, fun i o ho => ?_, H.apart, fun i b hb => ?_, HY.old⟩, hE⟩
 · obtain ⟨b, hb, hor⟩ := H.obj i o ho
   exact ⟨b, hb, hor.ext hE fun k hk => by subst hk; exact nS E (H.live _ _ hb).1⟩
 · have hl := H.live i b hb
   refine ⟨Nat.lt_of_lt_of_le hl.1 E.grow, fun hs => ?_⟩
   rcases E.new b hs with h | ⟨i, h⟩ | h
   · exact hl.2 h
   · simp at h
   · exact absurd hl.1 (Nat.not_lt.2 h)

theorem xA (H : HR X) {S : Nat → Prop} {Y : Cx} (E : Ext ⟨S, [], [], X.w⟩ Y) : HR ⟨X.S, X.μ, X.h, Y.w⟩ ∧ Ext X ⟨X.S, X.μ, X.h, Y.w⟩ := by
 have hE : Ext X ⟨X.S, X.μ, X.h, Y.w⟩ := by
   refine ⟨fun _ h => h, fun b hb => nS E (H.old b hb), fun b hb => .inl hb, fun i b h => .inl h, fun b hb _ => nS E hb, E.grow, fun i k ver l hl => ?_, fun i b h1 h2 => ⟨h2, h1⟩, E.env⟩
   refine ⟨k, ver, l, hl, Nat.le_refl _, fun _ => ⟨rfl, rfl, fun b hb => ⟨hb, ?_⟩⟩, fun h => ⟨h, rfl⟩⟩
   have : Y.w.heap[b]? = X.w.heap[b]? := nS E (H.live _ _ hb).1
   simp only [eU, this]; exact Nat.le_refl _
 refine ⟨⟨H.len, fun i o ho => ?_, H.apart, fun i b hb => ?_, fun b hb => Nat.lt_of_lt_of_le (H.old b hb) E.grow⟩, hE⟩
 · obtain ⟨b, hb, hor⟩ := H.obj i o ho
   exact ⟨b, hb, hor.ext hE fun k hk => by subst hk; exact nS E (H.live _ _ hb).1⟩
 · have hl := H.live i b hb
   exact ⟨Nat.lt_of_lt_of_le hl.1 E.grow, hl.2⟩

theorem aEz (H : HR X) {i : Nat} (hd : X.h[i]? = some .dead) : X.μ[i]? = some none := by
 obtain ⟨b, hb, hor⟩ := H.obj i _ hd
 rw [hb, show b = none from hor]

theorem aEA (H : HR X) {S : Nat → Prop} {Y : Cx} {s : Nat} (E : Ext ⟨S, [], [], X.w⟩ Y) (HY : HR ⟨fun _ => False, Y.μ, Y.h, Y.w⟩) (hd : ∀ j, j < Y.h.length → X.h[s + j]? = some .dead) (hn : ∀ o ∈ Y.h, o.newOk = true) :
   HR ⟨X.S, eV X.μ s Y.μ, eV X.h s Y.h, Y.w⟩ ∧ Ext X ⟨X.S, eV X.μ s Y.μ, eV X.h s Y.h, Y.w⟩ ∧
     Sh ⟨fun _ => False, Y.μ, Y.h, Y.w⟩ ⟨X.S, eV X.μ s Y.μ, eV X.h s Y.h, Y.w⟩ s := by
 have hroom : Y.h ≠ [] → s + Y.h.length ≤ X.h.length := fun hne => by
   have hp : 0 < Y.h.length := List.length_pos_iff.2 hne
   have := (List.getElem?_eq_some_iff.1 (hd (Y.h.length - 1) (by omega))).1
   omega
 have gh := rB Y.h X.h s hroom
 have gm := rB Y.μ X.μ s (fun hne => by
   have hp : 0 < Y.μ.length := List.length_pos_iff.2 hne
   have hl : Y.μ.length = Y.h.length := HY.len
   rw [hl] at hp ⊢; rw [H.len]
   exact hroom (List.length_pos_iff.1 hp))
 rw [show Y.μ.length = Y.h.length from HY.len] at gm
 have kept : ∀ b, b < X.w.heap.size → Y.w.heap[b]? = X.w.heap[b]? := fun b hb => nS E hb
 have fresh : ∀ j b, Y.μ[j]? = some (some b) → X.w.heap.size ≤ b := fun j b hb => by
   rcases E.muinv j b hb with h | h
   · simp at h
   · exact h
 have outr : ∀ i, (s ≤ i ∧ i < s + Y.h.length) → X.h[i]? = some .dead := fun i hi => by
   have := hd (i - s) (by omega)
   rwa [show s + (i - s) = i by omega] at this
 have hE : Ext X ⟨X.S, eV X.μ s Y.μ, eV X.h s Y.h, Y.w⟩ := by
   refine ⟨fun _ h => h, fun b hb => kept b (H.old b hb), fun b hb => .inl hb, fun i b hb => ?_, fun b hb _ => kept b hb, E.grow, fun i k ver l hl => ?_, fun i b h1 h2 => ?_, E.env⟩
   · simp only [gm] at hb
     split at hb
     · exact .inr (fresh _ _ hb)
     · exact .inl hb
   · have hno : ¬ (s ≤ i ∧ i < s + Y.h.length) := fun hi => by rw [outr i hi] at hl; cases hl
     refine ⟨k, ver, l, ?_, Nat.le_refl _, fun _ => ⟨rfl, rfl, fun b hb => ⟨?_, ?_⟩⟩, fun h => ⟨h, rfl⟩⟩
     · simp only [gh, if_neg hno, hl]
     · simp only [gm, if_neg hno, hb]
     · have := kept b (H.live _ _ hb).1
       simp only [eU, this]; exact Nat.le_refl _
   · have hno : ¬ (s ≤ i ∧ i < s + Y.h.length) := fun hi => by rw [aEz H (outr i hi)] at h2; cases h2
     exact ⟨by simp only [gm, if_neg hno, h2], by simp only [gh, if_neg hno, h1]⟩
 refine ⟨⟨?_, fun i o ho => ?_, fun i j b h1 h2 => ?_, fun i b hb => ?_, fun b hb => Nat.lt_of_lt_of_le (H.old b hb) E.grow⟩, hE, ⟨fun _ h => h, rfl, HY.len, fun i o ho => ?_, fun i b hb => ?_⟩⟩
 · simp only [vP, H.len]
 · simp only [gh] at ho
   simp only [gm]
   split at ho
   · rename_i hi
     rw [if_pos hi]
     obtain ⟨b, hb, hor⟩ := HY.obj _ o ho
     refine ⟨b, hb, ?_⟩
     have hok := hn o (List.mem_of_getElem? ho)
     cases o with
     | box v =>
       obtain ⟨b', cs, elem, rfl, q1, q2⟩ := hor
       exact ⟨b', cs, elem, rfl, q1, lJ (X := ⟨fun _ => False, Y.μ, Y.h, Y.w⟩) (fun b hb => hb.elim) (fun b hb => hb.elim) hok q2⟩
     | row k ver l =>
       rcases hor with hor | ⟨b', cs, elem, rfl, q1, q2, q3⟩
       · exact .inl hor
       · exact .inr ⟨b', cs, elem, rfl, q1, q2, fun hk => by subst hk; cases hok⟩
     | map m => exact hor
     | lp st pd r => exact hor
     | dead => exact hor
   · rename_i hi
     rw [if_neg hi]
     obtain ⟨b, hb, hor⟩ := H.obj i o ho
     exact ⟨b, hb, hor.ext hE fun k hk => by subst hk; exact kept k (H.live _ _ hb).1⟩
 · simp only [gm] at h1 h2
   split at h1 <;> split at h2
   · have := HY.apart _ _ _ h1 h2; omega
   · have := fresh _ _ h1; have := (H.live _ _ h2).1; omega
   · have := fresh _ _ h2; have := (H.live _ _ h1).1; omega
   · exact H.apart _ _ _ h1 h2
 · simp only [gm] at hb
   split at hb
   · have h1 := fresh _ _ hb
     refine ⟨(HY.live _ _ hb).1, fun hs => ?_⟩
     have := H.old b hs; omega
   · rename_i hi
     have hl := H.live _ _ hb
     refine ⟨Nat.lt_of_lt_of_le hl.1 E.grow, fun hs => ?_⟩
     obtain ⟨ver, l, h3⟩ := hl.2 hs
     exact ⟨ver, l, by simp only [gh, if_neg hi, h3]⟩
 · have : i < Y.h.length := (List.getElem?_eq_some_iff.1 ho).1
   simp only [gh]
   rw [if_pos ⟨by omega, by omega⟩, Nat.add_sub_cancel_left]; exact ho
 · have : i < Y.h.length := by rw [← show Y.μ.length = Y.h.length from HY.len]; exact (List.getElem?_eq_some_iff.1 hb).1
   simp only [gm]
   rw [if_pos ⟨by omega, by omega⟩, Nat.add_sub_cancel_left]; exact hb
end

end Lam
namespace Lam
open Go

structure mR (P : Program) (c : Ctx) : Prop where
 tab : aIG P c.tab
 sh : ∀ T, (c.tab T).shallow
 fok : FOk P c.envF

section
variable {X : Cx}

mutual
theorem aIh : ∀ {v : AV} {c : Value}, VV X v c → ∀ id, id ∈ v.rows → ∃ k ver l, X.h[id]? = some (.row k ver l)
 | .agg vs, c, h, id, hid => by
   simp only [VV] at h; obtain ⟨cs, rfl, h⟩ := h
   exact aCd h id (by simpa [AV.rows] using hid)
 | .tup vs, c, h, id, hid => by
   simp only [VV] at h; obtain ⟨cs, rfl, h⟩ := h
   exact sO h id (by simpa [AV.rows] using hid)
 | .sref x i v o n, c, h, id, hid => by
   simp only [AV.rows, List.mem_singleton] at hid; subst hid
   obtain ⟨_, _, _, _, k, ver, l, hr, _⟩ := h
   exact ⟨k, ver, l, kZ hr⟩
 | .fn _ _ _, _, _, id, hid | .iface _ _, _, _, id, hid | .arr _, _, _, id, hid | .ptr _ _, _, _, id, hid | .map _, _, _, id, hid
 | .top, _, _, id, hid | .und, _, _, id, hid | .int _ _, _, _, id, hid | .bool _, _, _, id, hid | .str _, _, _, id, hid | .sl _ _, _, _, id, hid
 | .ep _ _ _, _, _, id, hid | .nilp, _, _, id, hid | .nilfn, _, _, id, hid | .niliface, _, _, id, hid => by simp [AV.rows] at hid
theorem sO : ∀ {vs : List AV} {cs : List Value}, VVs X vs cs → ∀ id, id ∈ AV.rowss vs → ∃ k ver l, X.h[id]? = some (.row k ver l)
 | [], _, _, id, hid => by simp [AV.rowss] at hid
 | v :: r, _, h, id, hid => by
   simp only [VVs] at h; obtain ⟨c, d, rfl, h1, h2⟩ := h
   simp only [AV.rowss, List.mem_append] at hid
   exact hid.elim (aIh h1 id) (sO h2 id)
theorem aMS : ∀ {v : AV} {cs : List Value}, VC X v cs → ∀ id, id ∈ v.rows → ∃ k ver l, X.h[id]? = some (.row k ver l)
 | .agg vs, c, h, id, hid => by
   simp only [VC] at h
   exact aCd h id (by simpa [AV.rows] using hid)
 | .tup vs, c, h, id, hid => by simp only [VC] at h
 | .sref x i v o n, c, h, id, hid => by
   simp only [AV.rows, List.mem_singleton] at hid; subst hid
   simp only [VC] at h; obtain ⟨c, rfl, h⟩ := h
   obtain ⟨_, _, _, _, k, ver, l, hr, _⟩ := h
   exact ⟨k, ver, l, kZ hr⟩
 | .fn _ _ _, _, _, id, hid | .iface _ _, _, _, id, hid | .arr _, _, _, id, hid | .ptr _ _, _, _, id, hid | .map _, _, _, id, hid
 | .top, _, _, id, hid | .und, _, _, id, hid | .int _ _, _, _, id, hid | .bool _, _, _, id, hid | .str _, _, _, id, hid | .sl _ _, _, _, id, hid
 | .ep _ _ _, _, _, id, hid | .nilp, _, _, id, hid | .nilfn, _, _, id, hid | .niliface, _, _, id, hid => by simp [AV.rows] at hid
theorem aCd : ∀ {vs : List AV} {cs : List Value}, VCs X vs cs → ∀ id, id ∈ AV.rowss vs → ∃ k ver l, X.h[id]? = some (.row k ver l)
 | [], _, _, id, hid => by simp [AV.rowss] at hid
 | v :: r, _, h, id, hid => by
   simp only [VCs] at h; obtain ⟨c, d, rfl, h1, h2⟩ := h
   simp only [AV.rowss, List.mem_append] at hid
   exact hid.elim (aMS h1 id) (aCd h2 id)
end

theorem zS : ∀ (ids : List Nat) (h : List AObj), (gU ids h).length = h.length
 | [], _ => rfl
 | id :: r, h => by simp [gU, zS r]

theorem aKk (o : AObj) : froO (froO o) = froO o := by cases o <;> rfl

theorem aDc : ∀ (ids : List Nat) (h : List AObj) (i : Nat), (gU ids h)[i]? = if i ∈ ids then (h[i]?).map froO else h[i]?
 | [], _, _ => by simp [gU]
 | id :: r, h, i => by
   simp only [gU]
   rw [aDc r, List.getElem?_modify]
   by_cases e : id = i
   · subst e
     simp only [if_true, List.mem_cons, true_or]
     split
     · cases h[id]? <;> simp [aKk]
     · cases h[id]? <;> simp
   · simp only [if_neg e, List.mem_cons, Ne.symm e, false_or, id_eq]
     cases h[i]? <;> simp

def Cx.fro (X : Cx) (ids : List Nat) : Cx := ⟨fun b => X.S b ∨ ∃ id ∈ ids, X.μ[id]? = some (some b), X.μ, gU ids X.h, X.w⟩

theorem aAp (H : HR X) {ids : List Nat} (hr : ∀ id ∈ ids, ∃ k ver l, X.h[id]? = some (.row k ver l)) : HR (X.fro ids) ∧ Ext X (X.fro ids) := by
 have hh : ∀ i, (X.fro ids).h[i]? = _ := aDc ids X.h
 have E : Ext X (X.fro ids) := by
   refine ⟨fun _ h => .inl h, fun _ _ => rfl, fun b hb => ?_, fun i b hb => .inl hb, fun _ _ _ => rfl, Nat.le_refl _, fun i k ver l hl => ?_, fun i b h1 h2 => ⟨h2, ?_⟩, kJ.refl _⟩
   · rcases hb with h | ⟨id, _, h⟩
     · exact .inl h
     · exact .inr (.inl ⟨id, h⟩)
   · rw [hh]
     split
     · rename_i hi
       rw [kZ hl]
       exact ⟨.fro, ver, l, rfl, Nat.le_refl _, fun _ => ⟨rfl, rfl, fun b hb => ⟨hb, Nat.le_refl _⟩⟩, fun _ => ⟨by simp, rfl⟩⟩
     · exact ⟨k, ver, l, hl, Nat.le_refl _, fun _ => ⟨rfl, rfl, fun b hb => ⟨hb, Nat.le_refl _⟩⟩, fun h => ⟨h, rfl⟩⟩
   · rw [hh]
     split
     · rename_i hi
       obtain ⟨k, ver, l, e⟩ := hr i hi
       rw [e] at h1; cases h1
     · exact h1
 refine ⟨⟨by rw [show (X.fro ids).μ = X.μ from rfl, show (X.fro ids).h = gU ids X.h from rfl, zS, H.len], fun i o ho => ?_, H.apart, fun i b hb => ⟨(H.live i b hb).1, fun hs => ?_⟩, fun b hb => ?_⟩, E⟩
 · rw [hh] at ho
   split at ho
   · rename_i hi
     obtain ⟨k, ver, l, e⟩ := hr i hi
     rw [e] at ho
     cases ho
     obtain ⟨b, hb, hor⟩ := H.obj i _ e
     refine ⟨b, hb, ?_⟩
     rcases hor with ⟨h1, h2, _⟩ | ⟨b', cs, elem, rfl, h1, h2, _⟩
     · exact .inl ⟨h1, h2, by simp⟩
     · exact .inr ⟨b', cs, elem, rfl, h1, h2, fun _ => .inr ⟨i, hi, hb⟩⟩
   · obtain ⟨b, hb, hor⟩ := H.obj i o ho
     exact ⟨b, hb, hor.ext E fun _ _ => rfl⟩
 · rw [hh]
   rcases hs with h | ⟨id, hid, h⟩
   · obtain ⟨ver, l, e⟩ := (H.live i b hb).2 h
     rw [e]
     split
     · exact ⟨ver, l, rfl⟩
     · exact ⟨ver, l, rfl⟩
   · obtain rfl := H.apart _ _ _ hb h
     obtain ⟨k, ver, l, e⟩ := hr i hid
     rw [if_pos hid, e]
     exact ⟨ver, l, rfl⟩
 · rcases hb with h | ⟨id, _, h⟩
   · exact H.old b h
   · exact (H.live _ _ h).1

end

section
variable {ro : Option Nat} {P : Program} {X : Cx} {o : Oper} {a : Act} {h' : List AObj} {v : AV}

theorem kL {s : Sem Value} (H : HR X) (hd : ∀ c, o.op ≠ .defer c) (he : execOp a.eval o = (do pure (.value (← s)))) (hp : Pure P s X v) : OpTo ro P o a X.w (Good X X.h v) := by
 obtain ⟨c, hr, hv⟩ := hp
 exact OpTo.value hd (by rw [he]; simp [hr]) (Good.same H rfl hv)

theorem vA {s : Sem Value} (hd : ∀ c, o.op ≠ .defer c) (he : execOp a.eval o = (do pure (.value (← s)))) (hp : ∃ c w', s.run P X.w = .ok c w' ∧ Good X h' v c w') : OpTo ro P o a X.w (Good X h' v) := by
 obtain ⟨c, w', hr, hv⟩ := hp
 exact OpTo.value hd (by rw [he]; simp [hr]) hv

theorem aEc {s : Sem Unit} (hd : ∀ c, o.op ≠ .defer c) (he : execOp a.eval o = (do s; pure .skip)) (hp : ∃ w', s.run P X.w = .ok () w' ∧ Good X h' v undef w') : OpTo ro P o a X.w (Good X h' v) := by
 obtain ⟨w', hr, hv⟩ := hp
 exact OpTo.skip hd (by rw [he]; simp [hr]) hv

theorem iW {x : D} {S : Prop} {news : List AObj} {mm : Option (Nat × AObj)} (h : ofD x = some (S, v, news, mm)) : x = some (S, v, news) ∧ mm = none := by
 unfold ofD at h; split at h
 · cases h; exact ⟨rfl, rfl⟩
 · cases h
theorem vB {x : Option (Prop × Nat × AObj)} {S : Prop} {news : List AObj} {mm : Option (Nat × AObj)} (h : ofH x = some (S, v, news, mm)) : ∃ id o, x = some (S, id, o) ∧ v = .und ∧ news = [] ∧ mm = some (id, o) := by
 unfold ofH at h; split at h
 · cases h; exact ⟨_, _, rfl, rfl, rfl, rfl⟩
 · cases h
theorem vC {x : Option (Prop × AV × Nat × AObj)} {S : Prop} {news : List AObj} {mm : Option (Nat × AObj)} (h : ofM x = some (S, v, news, mm)) : ∃ id o, x = some (S, v, id, o) ∧ news = [] ∧ mm = some (id, o) := by
 unfold ofM at h; split at h
 · cases h; exact ⟨_, _, rfl, rfl, rfl⟩
 · cases h

theorem aAq {t : List (Nat × AV)} {f : Nat → TyD} : ∀ {l : List (Nat × Operand)}, (∀ p ∈ l, ∀ d, VV X (ev t d p.2) (a.eval p.2)) →
   uH X (l.map fun p => (p.1, ev t (f p.1) p.2)) (l.map fun p => (p.1, a.eval p.2))
 | [], _ => .nil
 | p :: r, hv => .cons _ _ _ _ _ (hv p (by simp) _) (aAq fun q hq => hv q (by simp [hq]))

theorem xS {α : Type} {f : α → AV} {g : α → Value} : ∀ {l : List α}, (∀ p ∈ l, VV X (f p) (g p)) → VVs X (l.map f) (l.map g)
 | [], _ => rfl
 | p :: r, hv => ⟨_, _, rfl, hv p (by simp), xS fun q hq => hv q (by simp [hq])⟩

theorem xT {α β : Type} : ∀ {l : List α} {r : List β}, l.length = r.length → (l.zip r).map (·.1) = l
 | [], _, _ => by simp
 | a :: l, [], h => by simp at h
 | a :: l, b :: r, h => by simp only [List.zip_cons_cons, List.map_cons]; rw [xT (by simpa using h)]

theorem aGi {t : List (Nat × AV)} {x : Option Operand} {d : TyD} (hv : ∀ y, x = some y → VV X (ev t d y) (a.eval y)) : OptR X (x.map (ev t d)) (x.map a.eval) := by
 cases x with
 | none => trivial
 | some y => exact hv y rfl

theorem VVs2 {x y : AV} {cs : List Value} (h : VVs X [x, y] cs) : ∃ c d, cs = [c, d] ∧ VV X x c ∧ VV X y d := by
 simp only [VVs] at h
 obtain ⟨c, d, rfl, h1, e, f, rfl, h2, rfl⟩ := h
 exact ⟨c, e, rfl, h1, h2⟩
theorem VVs1 {x : AV} {cs : List Value} (h : VVs X [x] cs) : ∃ c, cs = [c] ∧ VV X x c := by
 simp only [VVs] at h
 obtain ⟨c, d, rfl, h1, rfl⟩ := h
 exact ⟨c, rfl, h1⟩

theorem aHy (H : HR X) {U : TypeId} {e2 : LK} (hU : tyB P (.slice e2) U = true) {x : AV} {cx : Value} (hx : VV X x cx) :
   ∀ (e : LK) (ys : Lst), x.list X.h = some ys → ys.kind = e → mA P X e U ys cx := by
 intro e ys hl hk
 obtain ⟨E2, hu, _⟩ := jN hU
 exact .sl E2 ys cx hu hk (oT H hx hl)

theorem aLG {xs ys : Lst} {n : Nat} {S : Prop} {news : List AObj} (h : lT xs ys n = some (S, v, news)) : news ≠ [] := by
 rintro rfl
 unfold lT at h
 cases hz : xs.app ys with
 | none => simp [hz, fH] at h
 | some zs => simp [hz, fH] at h

theorem aHz {d : TyD} {h : List AObj} {x y : AV} {n : Nat} {S : Prop} {news : List AObj} (hd : fI d h x y n = some (S, v, news)) : news ≠ [] := by
 have fin : ∀ xs, (fH (y.list h) fun ys => lT xs ys n) = some (S, v, news) → news ≠ [] := by
   intro xs h1
   cases hl : y.list h with
   | none => simp [hl, fH] at h1
   | some ys => simp only [hl, fH] at h1; exact aLG h1
 unfold fI at hd
 split at hd
 · exact fin _ (eQ hd).2
 · rename_i id ver off len
   split at hd
   rotate_left
   · cases hd
   have := (eQ hd).2
   cases hl : mN (h[id]?) ver off len with
   | none => simp [hl, fH] at this
   | some xs =>
     simp only [hl] at this
     exact fin xs this
 · cases hd

theorem aKl (H : HR X) {c : Ctx} (C : mR P c) {T U ty : TypeId} {s : Nat} {x y : AV} {cx cy : Value} {S : Prop} {news : List AObj} {mm : Option (Nat × AObj)} (hx : VV X x cx) (hy : VV X y cy)
   (hdead : ∀ j, j < news.length → X.h[s + j]? = some .dead) (h : nR (c.tab T) (c.tab U) x y X.h s = some (S, v, news, mm)) (hS : S) (hs0 : X.h[s]? = some .dead ∨ news = []) :
   ∃ r w', (Builtin.append_ #[T, U] ty #[cx, cy]).run P X.w = .ok r w' ∧ Good X (dY (eV X.h s news) mm) v r w' := by
 have core : ∀ (y : AV) (hA : ∀ e ys, c.tab T = .slice e → y.list X.h = some ys → ys.kind = e → mA P X e U ys cy) {S : Prop}, S → ofDM (fI (c.tab T) X.h x y s) (fW (c.tab T) X.h x y) = some (S, v, news, mm) →
     ∃ r w', (Builtin.append_ #[T, U] ty #[cx, cy]).run P X.w = .ok r w' ∧ Good X (dY (eV X.h s news) mm) v r w' := by
   intro y hA S hS h
   unfold ofDM at h
   split at h
   · rename_i d hd
     obtain ⟨S', v', news'⟩ := d
     simp only [ofD, Option.some.injEq, Prod.mk.injEq] at h
     obtain ⟨rfl, rfl, rfl, rfl⟩ := h
     have hn : news' ≠ [] := aHz hd
     have hd0 : X.h[s]? = some .dead := hs0.resolve_right hn
     obtain ⟨o, r, w', rfl, hr, hg⟩ := aFu (ty := ty) H (C.tab T) hx hd0 hA hd hS
     exact ⟨r, w', hr, by simpa [dY, eV] using hg⟩
   · obtain ⟨id, o, h1, rfl, rfl⟩ := vC h
     obtain ⟨r, w', hr, hg⟩ := aFv (ty := ty) H (C.tab T) hx hA h1 hS
     exact ⟨r, w', hr, by simpa [dY, eV] using hg⟩
 unfold nR at h
 split at h
 · rename_i e2 he2
   have hU := C.tab U
   rw [he2] at hU
   exact core y (fun e ys _ hl hk => aHy H hU hy e ys hl hk) hS h
 · rename_i k hk2
   split at h
   · rename_i m
     unfold aFD at h
     split at h
     · rename_i S1 r1 h1
       cases h
       obtain rfl : cy = .int .i64 m := hy
       have hU := C.tab U
       rw [hk2] at hU
       refine core (oP (c.tab T) m) (fun e ys he hl hke => ?_) hS.2 h1
       rw [he] at hl
       simp only [oP, AV.list, Option.some.injEq] at hl
       subst hl
       exact .zs k .i64 m (xO hU) hS.1.1 hS.1.2
     · cases h
   · cases h
 · cases h

theorem aIT (H : HR X) {c : Ctx} (C : mR P c) {b : Builtin} {Ts : List TypeId} {ty : TypeId} {s : Nat} {args : List AV} {cs : List Value} {S : Prop} {news : List AObj} {mm : Option (Nat × AObj)}
   (consts : Array Bool) (hv : VVs X args cs) (hdead : ∀ j, j < news.length → X.h[s + j]? = some .dead) (h : mQ b (Ts.map c.tab) args X.h s = some (S, v, news, mm)) (hS : S) :
   ∃ r w', (builtin b Ts.toArray ty consts cs.toArray).run P X.w = .ok (.value r) w' ∧ Good X (dY (eV X.h s news) mm) v r w' := by
 have pu : ∀ {sm : Sem Value}, Pure P sm X v → news = [] → mm = none → (∀ w, (builtin b Ts.toArray ty consts cs.toArray).run P w = (sm.run P w).andThen fun r w' => .ok (.value r) w') →
     ∃ r w', (builtin b Ts.toArray ty consts cs.toArray).run P X.w = .ok (.value r) w' ∧ Good X (dY (eV X.h s news) mm) v r w' := by
   rintro sm ⟨r, hr, hvv⟩ rfl rfl hb
   refine ⟨r, X.w, by rw [hb, hr]; rfl, ?_⟩
   simpa [dY, eV] using Good.same H rfl hvv
 have ma : ∀ {sm : Sem Value}, (∃ r w', sm.run P X.w = .ok r w' ∧ Good X (dY (eV X.h s news) mm) v r w') → (∀ w, (builtin b Ts.toArray ty consts cs.toArray).run P w = (sm.run P w).andThen fun r w' => .ok (.value r) w') →
     ∃ r w', (builtin b Ts.toArray ty consts cs.toArray).run P X.w = .ok (.value r) w' ∧ Good X (dY (eV X.h s news) mm) v r w' := by
   rintro sm ⟨r, w', hr, hg⟩ hb
   exact ⟨r, w', by rw [hb, hr]; rfl, hg⟩
 have one : ∀ {d : TyD}, Ts.map c.tab = [d] → ∃ T, Ts = [T] ∧ d = c.tab T := by
   intro d hd
   cases Ts with
   | nil => cases hd
   | cons T r => cases r with
     | nil => cases hd; exact ⟨T, rfl, rfl⟩
     | cons _ _ => cases hd
 have two : ∀ {d e : TyD}, Ts.map c.tab = [d, e] → ∃ T U, Ts = [T, U] ∧ d = c.tab T ∧ e = c.tab U := by
   intro d e hd
   cases Ts with
   | nil => cases hd
   | cons T r => cases r with
     | nil => cases hd
     | cons U q => cases q with
       | nil => cases hd; exact ⟨T, U, rfl, rfl, rfl⟩
       | cons _ _ => cases hd
 unfold mQ at h
 split at h
 · rename_i d x hds
   obtain ⟨T, rfl, rfl⟩ := one hds
   obtain ⟨cx, rfl, hx⟩ := VVs1 hv
   obtain ⟨hh, rfl⟩ := iW h
   obtain ⟨rfl, hp⟩ := aJZ (C.tab T) hx ty hh hS
   exact pu hp rfl rfl fun w => by simp [builtin]
 · obtain ⟨c1, c2, rfl, h1, h2⟩ := VVs2 hv
   obtain ⟨hh, rfl⟩ := iW h
   obtain ⟨rfl, hp⟩ := aJX h1 h2 Ts.toArray ty hh hS
   exact pu hp rfl rfl fun w => by simp [builtin]
 · obtain ⟨c1, c2, rfl, h1, h2⟩ := VVs2 hv
   obtain ⟨hh, rfl⟩ := iW h
   obtain ⟨rfl, hp⟩ := aJY h1 h2 Ts.toArray ty hh hS
   exact pu hp rfl rfl fun w => by simp [builtin]
 · rename_i d e x y hds
   obtain ⟨T, U, rfl, rfl, rfl⟩ := two hds
   obtain ⟨c1, c2, rfl, h1, h2⟩ := VVs2 hv
   refine ma (aKl (ty := ty) H C h1 h2 hdead h hS ?_) fun w => by simp [builtin]
   cases news with
   | nil => exact .inr rfl
   | cons o r => exact .inl (by simpa using hdead 0 (by simp))
 · rename_i d e x y hds
   obtain ⟨T, U, rfl, rfl, rfl⟩ := two hds
   obtain ⟨c1, c2, rfl, h1, h2⟩ := VVs2 hv
   obtain ⟨id, o, hh, rfl, rfl⟩ := vC h
   refine ma (sm := Builtin.copy_ #[T, U] ty #[c1, c2]) ?_ fun w => by simp [builtin]
   · obtain ⟨r, w', hr, hg⟩ := aIL (U := U) (ty := ty) H (C.tab T) h1 h2 hh hS
     exact ⟨r, w', hr, by simpa [dY, eV] using hg⟩
 · rename_i d x hds
   obtain ⟨T, rfl, rfl⟩ := one hds
   obtain ⟨cx, rfl, hx⟩ := VVs1 hv
   obtain ⟨id, o, hh, rfl, rfl⟩ := vC h
   refine ma (sm := Builtin.clear_ #[T] ty #[cx]) ?_ fun w => by simp [builtin]
   · obtain ⟨r, w', hr, hg⟩ := aHr (ty := ty) H (C.tab T) hx hh hS
     exact ⟨r, w', hr, by simpa [dY, eV] using hg⟩
 · cases h

theorem oV {c : Ctx} {f : FuncId} {vs : Option (List AV)} {r : Bool × D} (h : oO c f vs = some r) : ∃ us, vs = some us ∧ AV.closeds us = true ∧ c.envF f us = some r := by
 unfold oO at h
 split at h
 · rename_i us
   split at h
   · rename_i hc; exact ⟨us, rfl, hc, h⟩
   · cases h
 · cases h

theorem aGj {cl : Call} (ho : o.op = .call cl) {fo : Operand} (hcal : cl.callee = .value fo) {fn : FuncId} {ca cd : Array Value} (hf : a.eval fo = .func (.func fn) ca cd) (w : World) :
   (execOp a.eval o).run P w = (callFunc fn (ca ++ cl.args.map a.eval ++ cd)).run P w := by
 simp [execOp, ho, resolve, hcal, hf, Deferred.ofValue, invoke]

theorem aMT (H : HR X) {mt : Bool} {c : Ctx} (C : mR P c) {f : AV} {args : List AV} {s : Nat} {S : Prop} {news : List AObj} {mm : Option (Nat × AObj)} {cl : Call} (ho : o.op = .call cl) {fo : Operand}
   (hcal : cl.callee = .value fo) (hf : VV X f (a.eval fo)) (hv : VVs X args (cl.args.map a.eval).toList)
   (hdead : ∀ j, j < news.length → X.h[s + j]? = some .dead) (h : qA mt c s f args X.h = some (S, v, news, mm)) (hS : S) : OpTo ro P o a X.w (Good X (dY (eV X.h s news) mm) v) := by
 have hnd : ∀ c, o.op ≠ .defer c := by rw [ho]; intro c h; cases h
 unfold qA at h
 split at h
 rotate_left
 · cases h
 rename_i q fn first cap
 simp only [VV] at hf
 obtain ⟨ca, cd, hfe, hf1, hf2⟩ := hf
 have hargs : VVs X (first ++ args ++ cap) ((ca ++ cl.args.map a.eval ++ cd).toList) := by
   rw [Array.toList_append, Array.toList_append]
   exact pK (pK hf1 hv) hf2
 have hrun := aGj (P := P) ho hcal hfe X.w
 unfold xR at h
 split at h
 · rename_i S' v' news' e
   simp only [Option.some.injEq, Prod.mk.injEq] at h
   obtain ⟨rfl, rfl, rfl, rfl⟩ := h
   obtain ⟨us, e1, e2, e3⟩ := oV e
   have hc := C.fok.spec _ _ _ _ _ _ e3 hS ⟨fun b => b < X.w.heap.size, [], [], X.w⟩ (ca ++ cl.args.map a.eval ++ cd) rfl rfl (hr0 fun _ h => h)
     (yV H H.old (fun id _ b hb => (H.live id b hb).1) e1 e2 hargs)
   refine OpTo.enter hnd (by rw [hrun, C.fok.enter _ _ _ e3]) (hc.mono fun e w'' he => ?_)
   obtain ⟨r, rfl, Y, rfl, HY, E, rfl, hnew, hsh, HY0, hvv⟩ := he
   obtain ⟨Z1, Z2, Z3⟩ := aEA H E HY0 hdead hnew
   exact ⟨⟨X.S, eV X.μ s Y.μ, eV X.h s Y.h, Y.w⟩, rfl, rfl, Z1, Z2, shV Z3 hsh hvv⟩
 · rename_i S' v' news' e
   split at h
   · rename_i hns
     simp only [Option.some.injEq, Prod.mk.injEq] at h
     obtain ⟨rfl, rfl, rfl, rfl⟩ := h
     obtain ⟨us, e1, e2, e3⟩ := oV e
     have hc := C.fok.spec _ _ _ _ _ _ e3 hS ⟨fun b => b < X.w.heap.size, [], [], X.w⟩ (ca ++ cl.args.map a.eval ++ cd) rfl rfl (hr0 fun _ h => h)
       (yV H H.old (fun id _ b hb => (H.live id b hb).1) e1 e2 hargs)
     refine OpTo.enter hnd (by rw [hrun, C.fok.enter _ _ _ e3]) (hc.mono fun e w'' he => ?_)
     obtain ⟨r, rfl, Y, rfl, HY, E, hcl, hvv⟩ := he
     obtain ⟨Z1, Z2⟩ := xA H E
     exact ⟨⟨X.S, X.μ, X.h, Y.w⟩, rfl, rfl, Z1, Z2, aDb hns hvv⟩
   split at h
   · rename_i hrows
     simp only [Option.some.injEq, Prod.mk.injEq] at h
     obtain ⟨rfl, rfl, rfl, rfl⟩ := h
     obtain ⟨us, e1, e2, e3⟩ := oV e
     have hc := C.fok.spec _ _ _ _ _ _ e3 hS ⟨X.S, [], [], X.w⟩ (ca ++ cl.args.map a.eval ++ cd) rfl rfl (hr0 H.old)
       (yV H (fun _ h => h) (by rw [hrows]; intro id hid; cases hid) e1 e2 hargs)
     refine OpTo.enter hnd (by rw [hrun, C.fok.enter _ _ _ e3]) (hc.mono fun e w'' he => ?_)
     obtain ⟨r, rfl, Y, rfl, HY, E, hcl, hvv⟩ := he
     obtain ⟨Z1, Z2⟩ := tJ H E HY
     exact ⟨⟨Y.S, X.μ, X.h, Y.w⟩, rfl, rfl, Z1, Z2, jL (X := Y) (Y := ⟨Y.S, X.μ, X.h, Y.w⟩) (fun _ h => h) (fun _ _ => rfl) hcl hvv⟩
   · rename_i id hrows
     split at h
     rotate_left
     · cases h
     simp only [Option.some.injEq, Prod.mk.injEq] at h
     obtain ⟨rfl, rfl, rfl, rfl⟩ := h
     obtain ⟨us, e1, e2, e3⟩ := oV e
     obtain ⟨H1, E1⟩ := aAp H (ids := AV.rowss (first ++ args ++ cap)) (fun id hid => sO hargs id hid)
     have hc := C.fok.spec _ _ _ _ _ _ e3 hS ⟨(X.fro (AV.rowss (first ++ args ++ cap))).S, [], [], X.w⟩ (ca ++ cl.args.map a.eval ++ cd) rfl rfl (hr0 H1.old)
       (yV H (fun _ h => .inl h) (fun id hid b hb => .inr ⟨id, hid, hb⟩) e1 e2 hargs)
     refine OpTo.enter hnd (by rw [hrun, C.fok.enter _ _ _ e3]) (hc.mono fun e w'' he => ?_)
     obtain ⟨r, rfl, Y, rfl, HY, E, hcl, hvv⟩ := he
     obtain ⟨Z1, Z2⟩ := tJ (X := X.fro (AV.rowss (first ++ args ++ cap))) H1 E HY
     refine ⟨⟨Y.S, X.μ, gU (AV.rowss (first ++ args ++ cap)) X.h, Y.w⟩, rfl, ?_, Z1, E1.trans Z2,
       jL (X := Y) (Y := ⟨Y.S, X.μ, gU (AV.rowss (first ++ args ++ cap)) X.h, Y.w⟩) (fun _ h => h) (fun _ _ => rfl) hcl hvv⟩
     show gU (AV.rowss (first ++ args ++ cap)) X.h = dY (eV X.h s []) _
     rw [hrows, ← aDa]
     rfl
   · cases h
 · cases h

theorem aGk {d : TyD} {x : D} {S : Prop} {news : List AObj} (h : fitD d x = some (S, v, news)) : ∃ S', x = some (S', v, news) ∧ S = (S' ∧ fitP d v) := by
 unfold fitD at h
 split at h
 · cases h; exact ⟨_, rfl, rfl⟩
 · cases h

theorem wH (H : HR X) {c : Ctx} {apps : List Nat} (C : mR P c) {t : List (Nat × AV)} {s : Nat} {S : Prop} {news : List AObj} {mm : Option (Nat × AObj)}
   (hv : ∀ x, x ∈ o.op.operands.toList → ∀ d, VV X (ev t d x) (a.eval x)) (hdead : ∀ j, j < news.length → X.h[s + j]? = some .dead)
   (h : opD c apps s t X.h o.op o.type = some (S, v, news, mm)) (hS : S) : OpTo ro P o a X.w (Good X (dY (eV X.h s news) mm) v) := by
 cases ho : o.op with
 | move x =>
   rw [ho] at h hv
   simp only [opD, Option.some.injEq, Prod.mk.injEq] at h
   obtain ⟨rfl, rfl, rfl, rfl⟩ := h
   exact kL (s := pure (a.eval x)) H (by rw [ho]; intro c h; cases h) (by simp [execOp, ho]) ⟨_, rfl, hv x (by simp [Op.operands]) _⟩
 | assign x =>
   rw [ho] at h hv
   simp only [opD, Option.some.injEq, Prod.mk.injEq] at h
   obtain ⟨rfl, rfl, rfl, rfl⟩ := h
   exact kL (s := pure (a.eval x)) H (by rw [ho]; intro c h; cases h) (by simp [execOp, ho]) ⟨_, rfl, hv x (by simp [Op.operands]) _⟩
 | pick cd x y =>
   rw [ho] at h hv
   obtain ⟨hh, rfl⟩ := iW h
   obtain ⟨rfl, hp⟩ := aII (P := P) (hv cd (by simp [Op.operands]) _) (hv x (by simp [Op.operands]) _) (hv y (by simp [Op.operands]) _) hh hS
   exact kL H (by rw [ho]; intro c h; cases h) (by simp [execOp, ho]) hp
 | alloc T =>
   rw [ho] at h hv
   simp only [opD, aIg, Option.some.injEq, Prod.mk.injEq] at h
   obtain ⟨rfl, rfl, rfl, rfl⟩ := h
   exact vA (by rw [ho]; intro c h; cases h) (by simp only [execOp, ho]) (aHo H (C.tab T) (by simpa using hdead 0 (by simp)) hS)
 | box T x =>
   rw [ho] at h hv
   simp only [opD, aMu, Option.some.injEq, Prod.mk.injEq] at h
   obtain ⟨rfl, rfl, rfl, rfl⟩ := h
   exact vA (by rw [ho]; intro c h; cases h) (by simp only [execOp, ho]) (aHp (T := T) H (by simpa using hdead 0 (by simp)) hS (hv x (by simp [Op.operands]) _))
 | build T parts =>
   rw [ho] at h hv
   obtain ⟨hh, rfl⟩ := iW h
   obtain ⟨rfl, hp⟩ := aHn (P := P) (cps := parts.map fun p => (p.1, a.eval p.2)) (C.tab T)
     (by rw [Array.toList_map]; exact aAq (f := fun i => (c.tab T).field i) fun p hp d => hv p.2 (by simp only [Op.operands]; exact List.mem_map_of_mem hp) d) hh hS
   exact kL H (by rw [ho]; intro c h; cases h) (by simp only [execOp, ho]) hp
 | buildSlice T n parts =>
   rw [ho] at h hv
   obtain ⟨hh, rfl⟩ := iW h
   have hd0 : X.h[s]? = some .dead := by
     refine hdead 0 ?_
     unfold eN at hh
     split at hh
     · unfold fH at hh; split at hh
       · cases hh; simp
       · cases hh
     · cases hh
   obtain ⟨o', r, w', rfl, hr, hg⟩ := aCa (P := P) (cps := parts.map fun p => (p.1, a.eval p.2)) H (C.tab T) hd0
     (by rw [Array.toList_map]; exact aAq (f := fun _ => .other) fun p hp d => hv p.2 (by simp only [Op.operands]; exact List.mem_map_of_mem hp) d) hh hS
   exact vA (by rw [ho]; intro c h; cases h) (by simp only [execOp, ho]) ⟨r, w', hr, hg⟩
 | load T x =>
   rw [ho] at h hv
   obtain ⟨hh, rfl⟩ := iW h
   obtain ⟨S', h1, rfl⟩ := aGk hh
   obtain ⟨rfl, hl⟩ := aBy H h1 hS.1 (hv x (by simp [Op.operands]) .ptr)
   obtain ⟨r, hr, hvv⟩ := aCI (P := P) (C.tab T) hS.2 hl
   exact vA (s := Instr.loadAt T (a.eval x)) (by rw [ho]; intro c h; cases h) (by simp only [execOp, ho]) ⟨r, X.w, hr, Good.same H rfl hvv⟩
 | store T x y =>
   rw [ho] at h hv
   obtain ⟨id, o', hh, rfl, rfl, rfl⟩ := vB h
   obtain ⟨w', hr, hg⟩ := aHq H (C.tab T) (hv x (by simp [Op.operands]) .ptr) (hv y (by simp [Op.operands]) _) hh hS
   exact aEc (by rw [ho]; intro c h; cases h) (by simp only [execOp, ho]) ⟨w', hr, by simpa [dY, eV] using hg⟩
 | nilCheck x =>
   rw [ho] at h hv
   obtain ⟨hh, rfl⟩ := iW h
   obtain ⟨rfl, r, hr, hvv⟩ := aDZ ho rfl (hv x (by simp [Op.operands]) .ptr) hh hS
   exact OpTo.value (by rw [ho]; intro c h; cases h) hr (Good.same H rfl hvv)
 | binOp op xt x y b =>
   rw [ho] at h hv
   have core : ofD (binD (c.tab xt) op (ev t (c.tab xt) x) (ev t (c.tab xt) y)) = some (S, v, news, mm) → OpTo ro P o a X.w (Good X (dY (eV X.h s news) mm) v) := by
     intro h
     obtain ⟨hh, rfl⟩ := iW h
     obtain ⟨rfl, hp⟩ := aKc (P := P) (ox := x) (oy := y) (C.tab xt) (C.sh xt) (hv x (by simp [Op.operands]) _) (hv y (by simp [Op.operands]) _) hh hS
     exact kL H (by rw [ho]; intro c h; cases h) (by simp only [execOp, ho]) hp
   simp only [opD] at h
   split at h
   · cases h
   · exact core h
 | unOp op xt x =>
   rw [ho] at h hv
   obtain ⟨hh, rfl⟩ := iW h
   obtain ⟨rfl, hp⟩ := aLA (P := P) (hv x (by simp [Op.operands]) _) hh hS
   exact kL H (by rw [ho]; intro c h; cases h) (by simp only [execOp, ho]) hp
 | convert s d x =>
   rw [ho] at h hv
   obtain ⟨hh, rfl⟩ := iW h
   obtain ⟨rfl, hp⟩ := aIJ (P := P) H (C.tab s) (C.tab d) (hv x (by simp [Op.operands]) _) hh hS
   exact kL H (by rw [ho]; intro c h; cases h) (by simp only [execOp, ho]) hp
 | makeInterface T x =>
   rw [ho] at h hv
   simp only [opD, aCZ] at h
   split at h
   · rename_i hk
     simp only [Option.some.injEq, Prod.mk.injEq] at h
     obtain ⟨rfl, rfl, rfl, rfl⟩ := h
     exact kL H (by rw [ho]; intro c h; cases h) (by simp only [execOp, ho])
       (aCJ (P := P) (C.tab T) hk (hv x (by simp [Op.operands]) _) (by intro ts e; rw [e] at hk; cases hk))
   · cases h
 | makeFunc fn first cap =>
   rw [ho] at h hv
   simp only [opD, Option.some.injEq, Prod.mk.injEq] at h
   obtain ⟨rfl, rfl, rfl, rfl⟩ := h
   refine kL (s := Instr.makeFunc fn (first.map a.eval) (cap.map a.eval)) H (by rw [ho]; intro c h; cases h) (by simp only [execOp, ho]) ⟨.func fn (first.map a.eval) (cap.map a.eval), rfl, ?_⟩
   simp only [VV]
   refine ⟨_, _, rfl, ?_, ?_⟩
   · rw [Array.toList_map]; exact xS fun p hp => hv p (by simp only [Op.operands, Array.toList_append]; exact List.mem_append_left _ hp) _
   · rw [Array.toList_map]; exact xS fun p hp => hv p (by simp only [Op.operands, Array.toList_append]; exact List.mem_append_right _ hp) _
 | makeMap T r =>
   rw [ho] at h hv
   cases r with
   | some _ => cases h
   | none =>
     obtain ⟨hh, rfl⟩ := iW h
     have hd0 : X.h[s]? = some .dead := by
       refine hdead 0 ?_
       unfold kQ at hh
       split at hh <;> first | (cases hh; done) | (cases hh; simp)
     obtain ⟨o', r, w', rfl, hr, hg⟩ := aFs (P := P) (T := T) H hd0 hh hS
     exact vA (by rw [ho]; intro c h; cases h) (by simp only [execOp, ho]; rfl) ⟨r, w', hr, hg⟩
 | makeSlice T l cp =>
   rw [ho] at h hv
   obtain ⟨hh, rfl⟩ := iW h
   have hd0 : X.h[s]? = some .dead := by
     refine hdead 0 ?_
     unfold kC at hh
     split at hh <;> cases hh
     simp
   obtain ⟨o', r, w', rfl, hr, hg⟩ := aCP (P := P) H (C.tab T) hd0 (hv l (by simp [Op.operands]) _) (hv cp (by simp [Op.operands]) _) hh hS
   exact vA (by rw [ho]; intro c h; cases h) (by simp only [execOp, ho]) ⟨r, w', hr, hg⟩
 | slice T x lo hi mx =>
   rw [ho] at h hv
   obtain ⟨hh, rfl⟩ := iW h
   obtain ⟨rfl, hp⟩ := aHj (P := P) H (C.tab T) (hv x (by simp [Op.operands]) _)
     (aGi (x := lo) (a := a) fun y hy => hv y (by subst hy; simp [Op.operands]) _) (aGi (x := hi) (a := a) fun y hy => hv y (by subst hy; simp [Op.operands]) _) (aGi (x := mx) (a := a) fun y hy => hv y (by subst hy; simp [Op.operands]) _) hh hS
   exact kL H (by rw [ho]; intro c h; cases h) (by simp only [execOp, ho]) hp
 | fieldAddr T x f =>
   rw [ho] at h hv
   obtain ⟨hh, rfl⟩ := iW h
   obtain ⟨rfl, hp⟩ := aCL (P := P) (C.tab T) (hv x (by simp [Op.operands]) _) hh hS
   exact kL H (by rw [ho]; intro c h; cases h) (by simp only [execOp, ho]) hp
 | field T x f =>
   rw [ho] at h hv
   obtain ⟨hh, rfl⟩ := iW h
   obtain ⟨rfl, hp⟩ := aHk (P := P) (C.tab T) (hv x (by simp [Op.operands]) _) hh hS
   exact kL H (by rw [ho]; intro c h; cases h) (by simp only [execOp, ho]) hp
 | indexAddr T x i =>
   rw [ho] at h hv
   obtain ⟨hh, rfl⟩ := iW h
   obtain ⟨rfl, hp⟩ := aCM (P := P) H (C.tab T) (hv x (by simp [Op.operands]) _) (hv i (by simp [Op.operands]) _) hh hS
   exact kL H (by rw [ho]; intro c h; cases h) (by simp only [execOp, ho]) hp
 | index T x i =>
   rw [ho] at h hv
   obtain ⟨hh, rfl⟩ := iW h
   obtain ⟨rfl, hp⟩ := aHm (P := P) (C.tab T) (hv x (by simp [Op.operands]) _) (hv i (by simp [Op.operands]) _) hh hS
   exact kL H (by rw [ho]; intro c h; cases h) (by simp only [execOp, ho]) hp
 | lookup T x k b =>
   rw [ho] at h hv
   cases b with
   | true => cases h
   | false =>
     obtain ⟨hh, rfl⟩ := iW h
     obtain ⟨rfl, hp⟩ := aGe (P := P) H (C.tab T) (hv x (by simp [Op.operands]) _) (hv k (by simp [Op.operands]) _) hh hS
     exact kL H (by rw [ho]; intro c h; cases h) (by simp only [execOp, ho]) hp
 | mapUpdate T x k y =>
   rw [ho] at h hv
   obtain ⟨id, o', hh, rfl, rfl, rfl⟩ := vB h
   obtain ⟨w', hr, hg⟩ := aAm (P := P) H (C.tab T) (hv x (by simp [Op.operands]) _) (hv k (by simp [Op.operands]) _) (hv y (by simp [Op.operands]) _) hh hS
   exact aEc (by rw [ho]; intro c h; cases h) (by simp only [execOp, ho]) ⟨w', hr, by simpa [dY, eV] using hg⟩
 | insert T x k y =>
   rw [ho] at h hv
   obtain ⟨id, o', hh, rfl, rfl, rfl⟩ := vB h
   obtain ⟨w', hr, hg⟩ := aAm (P := P) H (C.tab T) (hv x (by simp [Op.operands]) _) (hv k (by simp [Op.operands]) _) (hv y (by simp [Op.operands]) _) hh hS
   exact aEc (by rw [ho]; intro c h; cases h) (by simp only [execOp, ho]) ⟨w', hr, by simpa [dY, eV] using hg⟩
 | extract x i =>
   rw [ho] at h hv
   obtain ⟨hh, rfl⟩ := iW h
   obtain ⟨rfl, hp⟩ := aFn (P := P) (hv x (by simp [Op.operands]) _) hh hS
   exact kL H (by rw [ho]; intro c h; cases h) (by simp only [execOp, ho]) hp
 | call cl =>
   rw [ho] at h hv
   have hop := mJ cl
   simp only [opD] at h
   split at h
   · cases h
   rename_i hl
   have hl := Nat.eq_of_beq_eq_true hl
   have hargs : VVs X (lF c t cl) (cl.args.map a.eval).toList := by
     have := xS (X := X) (f := fun p : Operand × TypeId => ev t (c.tab p.2) p.1) (g := fun p => a.eval p.1) (l := cl.args.toList.zip cl.argTypes.toList)
       fun p hp => hv p.1 (hop.1 p.1 (List.of_mem_zip hp).1) _
     rw [Array.toList_map]
     have e : (cl.args.toList.zip cl.argTypes.toList).map (fun p => a.eval p.1) = cl.args.toList.map a.eval := by
       rw [← xT hl, List.map_map]
       congr 1
       rw [xT hl]
     rw [← e]; exact this
   split at h
   · rename_i b hc
     obtain ⟨r, w', hr, hg⟩ := aIT (ty := o.type) H C (cl.args.map fun | .const _ => true | _ => false) hargs hdead h hS
     refine OpTo.value (by rw [ho]; intro c h; cases h) ?_ hg
     simp only [Array.toArray_toList] at hr
     simp only [execOp, ho, resolve, hc, Sem.run_bind, Sem.run_pure, Result.andThen_ok, invoke]
     exact hr
   · rename_i f hc
     exact aMT H C ho hc (hv f (hop.2 f hc) _) hargs hdead h hS
   · cases h
 | _ => rw [ho] at h; cases h
end

end Lam
namespace Lam
open Go

/-! ### The objects that a value names are there -/
theorem aEd {h : List AObj} {i : Nat} {r : RK × Nat × Lst} (e : rowO (h[i]?) = some r) : i < h.length := by
 rcases Nat.lt_or_ge i h.length with h1 | h1
 · exact h1
 · rw [List.getElem?_eq_none h1] at e; cases e

section
variable {X : Cx}

def Here (X : Cx) (id : Nat) : Prop := (∃ r, rowO (X.h[id]?) = some r) ∨ ∃ b, X.μ[id]? = some (some b)

theorem Here.lt {id : Nat} (hl : X.μ.length = X.h.length) (h : Here X id) : id < X.h.length := by
 rcases h with ⟨r, h⟩ | ⟨b, h⟩
 · exact aEd h
 · rw [← hl]; exact (List.getElem?_eq_some_iff.1 h).1

theorem Here.alive {id : Nat} (H : HR X) (h : Here X id) : X.h[id]? ≠ some .dead := by
 intro e
 rcases h with ⟨r, h⟩ | ⟨b, h⟩
 · rw [e] at h; cases h
 · rw [aEz H e] at h; cases h

theorem vD {v : AV} {c : Value} (h : VB X v c) (hf : v.scalar = true) (hn : ∀ f a b, v ≠ .fn f a b) (hi : ∀ t u, v ≠ .iface t u) : ∀ id, id ∈ v.ids → Here X id := by
 intro id hid
 cases v with
 | sref x i ver off len =>
   simp only [AV.ids, List.mem_singleton] at hid; subst hid
   obtain ⟨_, _, _, _, _, _, _, hr, _⟩ := h
   exact .inl ⟨_, hr⟩
 | ptr i p =>
   simp only [AV.ids, List.mem_singleton] at hid; subst hid
   simp only [VB] at h
   unfold PtV at h
   split at h
   · obtain ⟨_, _, _, hr, _⟩ := h; exact .inl ⟨_, hr⟩
   · obtain ⟨_, hm, _⟩ := h; exact .inr ⟨_, hm⟩
 | map i =>
   simp only [AV.ids, List.mem_singleton] at hid; subst hid
   obtain ⟨_, hm, _⟩ := h; exact .inr ⟨_, hm⟩
 | fn f a b => exact (hn _ _ _ rfl).elim
 | iface t u => exact (hi _ _ rfl).elim
 | agg _ => cases hf
 | arr _ => cases hf
 | tup _ => cases hf
 | _ => simp [AV.ids] at hid

mutual
theorem xU : ∀ {v : AV} {c : Value}, VV X v c → ∀ id, id ∈ v.ids → Here X id
 | .agg vs, c, h, id, hid => by
   simp only [VV] at h; obtain ⟨cs, rfl, h⟩ := h
   exact aCe h id (by simpa [AV.ids] using hid)
 | .tup vs, c, h, id, hid => by
   simp only [VV] at h; obtain ⟨cs, rfl, h⟩ := h
   exact sP h id (by simpa [AV.ids] using hid)
 | .fn f a b, c, h, id, hid => by
   simp only [VV] at h; obtain ⟨x, d, rfl, h1, h2⟩ := h
   simp only [AV.ids, List.mem_append] at hid
   exact hid.elim (sP h1 id) (sP h2 id)
 | .iface t v, c, h, id, hid => by
   simp only [VV] at h; obtain ⟨u, rfl, h⟩ := h
   exact xU h id (by simpa [AV.ids] using hid)
 | .arr l, c, h, id, hid => by simp [AV.ids] at hid
 | .sref x i v o n, c, h, id, hid => vD (v := .sref x i v o n) h rfl (by intros; simp) (by intros; simp) id hid
 | .ptr i p, c, h, id, hid => vD (v := .ptr i p) h rfl (by intros; simp) (by intros; simp) id hid
 | .map i, c, h, id, hid => vD (v := .map i) h rfl (by intros; simp) (by intros; simp) id hid
 | .top, _, _, id, hid | .und, _, _, id, hid | .int _ _, _, _, id, hid | .bool _, _, _, id, hid | .str _, _, _, id, hid | .sl _ _, _, _, id, hid
 | .ep _ _ _, _, _, id, hid | .nilp, _, _, id, hid | .nilfn, _, _, id, hid | .niliface, _, _, id, hid => by simp [AV.ids] at hid
theorem sP : ∀ {vs : List AV} {cs : List Value}, VVs X vs cs → ∀ id, id ∈ AV.idss vs → Here X id
 | [], _, _, id, hid => by simp [AV.idss] at hid
 | v :: r, _, h, id, hid => by
   simp only [VVs] at h; obtain ⟨c, d, rfl, h1, h2⟩ := h
   simp only [AV.idss, List.mem_append] at hid
   exact hid.elim (xU h1 id) (sP h2 id)
theorem aMU : ∀ {v : AV} {cs : List Value}, VC X v cs → ∀ id, id ∈ v.ids → Here X id
 | .agg vs, c, h, id, hid => by
   simp only [VC] at h
   exact aCe h id (by simpa [AV.ids] using hid)
 | .tup vs, c, h, id, hid => by simp only [VC] at h
 | .fn f a b, c, h, id, hid => by
   simp only [VC] at h; obtain ⟨x, d, rfl, h1, h2⟩ := h
   simp only [AV.ids, List.mem_append] at hid
   exact hid.elim (sP h1 id) (sP h2 id)
 | .iface t v, c, h, id, hid => by
   simp only [VC] at h; obtain ⟨u, rfl, h⟩ := h
   exact xU h id (by simpa [AV.ids] using hid)
 | .arr l, c, h, id, hid => by simp [AV.ids] at hid
 | .sref x i v o n, c, h, id, hid => by simp only [VC] at h; obtain ⟨c, rfl, h⟩ := h; exact vD (v := .sref x i v o n) h rfl (by intros; simp) (by intros; simp) id hid
 | .ptr i p, c, h, id, hid => by simp only [VC] at h; obtain ⟨c, rfl, h⟩ := h; exact vD (v := .ptr i p) h rfl (by intros; simp) (by intros; simp) id hid
 | .map i, c, h, id, hid => by simp only [VC] at h; obtain ⟨c, rfl, h⟩ := h; exact vD (v := .map i) h rfl (by intros; simp) (by intros; simp) id hid
 | .top, _, _, id, hid | .und, _, _, id, hid | .int _ _, _, _, id, hid | .bool _, _, _, id, hid | .str _, _, _, id, hid | .sl _ _, _, _, id, hid
 | .ep _ _ _, _, _, id, hid | .nilp, _, _, id, hid | .nilfn, _, _, id, hid | .niliface, _, _, id, hid => by simp [AV.ids] at hid
theorem aCe : ∀ {vs : List AV} {cs : List Value}, VCs X vs cs → ∀ id, id ∈ AV.idss vs → Here X id
 | [], _, _, id, hid => by simp [AV.idss] at hid
 | v :: r, _, h, id, hid => by
   simp only [VCs] at h; obtain ⟨c, d, rfl, h1, h2⟩ := h
   simp only [AV.idss, List.mem_append] at hid
   exact hid.elim (aMU h1 id) (aCe h2 id)
end

theorem aGl (hl : X.μ.length = X.h.length) {v : AV} {c : Value} (h : VV X v c) (id : Nat) (hi : id ∈ v.ids) : id < X.h.length := (xU h id hi).lt hl


/-! ### Room for new objects -/
def Cx.pad (X : Cx) (k : Nat) : Cx := ⟨X.S, X.μ ++ List.replicate k none, X.h ++ List.replicate k .dead, X.w⟩

theorem aKm {k i : Nat} (hl : X.μ.length = X.h.length) : (X.pad k).μ[i]? = if i < X.h.length then X.μ[i]? else if i < X.h.length + k then some none else none := by
 simp only [Cx.pad, List.getElem?_append, hl]
 split
 · rfl
 · split
   · rw [List.getElem?_replicate, if_pos (by omega)]
   · rw [List.getElem?_replicate, if_neg (by omega)]

theorem sW {k i : Nat} : (X.pad k).h[i]? = if i < X.h.length then X.h[i]? else if i < X.h.length + k then some .dead else none := by
 simp only [Cx.pad, List.getElem?_append]
 split
 · rfl
 · split
   · rw [List.getElem?_replicate, if_pos (by omega)]
   · rw [List.getElem?_replicate, if_neg (by omega)]

theorem vQ (H : HR X) (k : Nat) : HR (X.pad k) ∧ Ext X (X.pad k) := by
 have hm : ∀ i, (X.pad k).μ[i]? = _ := fun i => aKm (k := k) H.len
 have hh : ∀ i, (X.pad k).h[i]? = _ := fun i => sW (X := X) (k := k)
 have lt : ∀ {i : Nat} {b : Option Nat}, X.μ[i]? = some b → i < X.h.length := fun e => by rw [← H.len]; exact (List.getElem?_eq_some_iff.1 e).1
 have inv : ∀ {i b : Nat}, (X.pad k).μ[i]? = some (some b) → X.μ[i]? = some (some b) := fun {i b} e => by
   rw [hm] at e
   split at e
   · exact e
   · split at e <;> cases e
 have E : Ext X (X.pad k) := by
   refine ⟨fun _ h => h, fun _ _ => rfl, fun b hb => .inl hb, fun i b hb => .inl (inv hb), fun _ _ _ => rfl, Nat.le_refl _, fun i r ver l hl => ?_, fun i b h1 h2 => ?_, kJ.refl _⟩
   · have hi : i < X.h.length := aEd hl
     refine ⟨r, ver, l, by rw [hh, if_pos hi]; exact hl, Nat.le_refl _, fun _ => ⟨rfl, rfl, fun b hb => ⟨by rw [hm, if_pos hi]; exact hb, Nat.le_refl _⟩⟩, fun h => ⟨h, rfl⟩⟩
   · have hi := lt h2
     exact ⟨by rw [hm, if_pos hi]; exact h2, by rw [hh, if_pos hi]; exact h1⟩
 refine ⟨⟨by simp [Cx.pad, H.len], fun i o ho => ?_, fun i j b h1 h2 => H.apart _ _ _ (inv h1) (inv h2), fun i b hb => ?_, H.old⟩, E⟩
 · rw [hh] at ho; rw [hm]
   split at ho
   · rename_i hi
     rw [if_pos hi]
     obtain ⟨b, hb, hor⟩ := H.obj i o ho
     exact ⟨b, hb, hor.ext E fun _ _ => rfl⟩
   · rename_i hi
     rw [if_neg hi]
     split at ho
     · rename_i h2
       cases ho
       exact ⟨none, by rw [if_pos h2], rfl⟩
     · cases ho
 · have hb := inv hb
   have := H.live i b hb
   refine ⟨this.1, fun hs => ?_⟩
   obtain ⟨ver, l, h1⟩ := this.2 hs
   exact ⟨ver, l, by rw [hh, if_pos (lt hb)]; exact h1⟩

theorem wI {h : List AObj} : ∀ (news : List AObj), eV (h ++ List.replicate news.length .dead) h.length news = h ++ news := by
 intro news
 apply List.ext_getElem?
 intro i
 rw [rB _ _ _ (by intro _; simp)]
 simp only [List.getElem?_append]
 by_cases h1 : i < h.length
 · rw [if_neg (by omega), if_pos h1]
   simp [h1]
 · by_cases h2 : i < h.length + news.length
   · rw [if_pos (by omega), if_neg h1]
   · rw [if_neg (by omega), if_neg h1, if_neg h1, List.getElem?_eq_none (by simp; omega), List.getElem?_eq_none (by omega)]

end

end Lam
namespace Lam
open Go

def nC (base : Nat) (X : Cx) : List Deferred → Prop
 | [] => True
 | d :: ds => (∃ r, d = { target := .collected r, args := #[] } ∧ base ≤ r ∧ X.w.heap[r]? = some (.deferred (some [])) ∧ (∀ i : Nat, X.μ[i]? ≠ some (some r)) ∧ ¬ X.S r ∧ ∀ d' ∈ ds, d'.target ≠ .collected r) ∧ nC base X ds

theorem nC.ext {base : Nat} {X Y : Cx} (E : Ext X Y) : ∀ {ds : List Deferred}, nC base X ds → nC base Y ds
 | [], _ => trivial
 | d :: ds, ⟨⟨r, e, h1, h2, h3, h4, h5⟩, h⟩ => by
   have hlt : r < X.w.heap.size := (Array.getElem?_eq_some_iff.1 h2).1
   refine ⟨⟨r, e, h1, by rw [E.keep r hlt h3]; exact h2, fun i hi => ?_, fun hs => ?_, h5⟩, nC.ext E h⟩
   · rcases E.muinv i r hi with h | h
     · exact h3 i h
     · omega
   · rcases E.new r hs with h | ⟨i, h⟩ | h
     · exact h4 h
     · exact h3 i h
     · omega

theorem nC.lt {base : Nat} {X : Cx} : ∀ {ds : List Deferred}, nC base X ds → ∀ d ∈ ds, ∀ {r : Nat}, d.target = .collected r → r < X.w.heap.size
 | [], _, d, hd, _, _ => by cases hd
 | d :: ds, ⟨⟨r, e, _, h2, _⟩, h⟩, d', hd', r', e' => by
   rcases List.mem_cons.1 hd' with rfl | hd'
   · rw [e] at e'
     cases e'
     exact (Array.getElem?_eq_some_iff.1 h2).1
   · exact nC.lt h d' hd' e'

structure DB where
 sz : Nat
 base : List Deferred

def lR (B : DB) (X : Cx) (l : List Deferred) : Prop := ∃ m, l = m ++ B.base ∧ nC B.sz X m

theorem lR.ext {B : DB} {X Y : Cx} (E : Ext X Y) {l : List Deferred} (h : lR B X l) : lR B Y l := by
 obtain ⟨m, e, hm⟩ := h
 exact ⟨m, e, hm.ext E⟩

theorem lR.nil {n : Nat} {X : Cx} : lR ⟨n, []⟩ X [] := ⟨[], rfl, trivial⟩

structure SR (n : Nat) (ds : DB) (X : Cx) (t : List (Nat × AV)) (a : Act) : Prop where
 v : ∀ i, VV X (get t i) (a.tmps.getD i undef)
 size : n ≤ a.tmps.size
 defers : lR ds X a.defers

theorem kR (t : List (Nat × AV)) (i j : Nat) (v : AV) : get (put i v t) j = if i = j then v else get t j := by
 simp only [put, get]
 by_cases h : j = i
 · subst h; simp
 · have : Nat.beq j i = false := by rw [Bool.eq_false_iff]; intro e; exact h (Nat.eq_of_beq_eq_true e)
   rw [this, if_neg (Ne.symm h)]

section
variable {n : Nat} {ds : DB} {X Y : Cx} {t : List (Nat × AV)} {a : Act}

theorem aGm (d : TyD) (v : Value) : VV X (.ofConst d v) v := by
 have hsl : VV X (match d with | .slice e => AV.sl true e.empty | _ => .top) (.slice none 0 0) := by
   cases d <;> first | trivial | skip
   rename_i e
   exact ⟨none, 0, by cases e <;> rfl, by cases e <;> simp [LK.empty, Lst.len], fun _ => by cases e <;> rfl, fun _ => rfl, fun h => (h (by cases e <;> rfl)).elim⟩
 unfold AV.ofConst
 split
 · rfl
 · rfl
 · show Value.string _ = .string (bstr _)
   rw [bstr_data]
 · rfl
 · exact hsl
 · rfl
 · rfl
 · trivial

theorem SR.ev (h : SR n ds X t a) (x : Operand) (d : TyD) : VV X (Lam.ev t d x) (a.eval x) := by
 cases x with
 | tmp i => exact h.v i
 | const v => exact aGm d v
 | global g => trivial
 | func f => exact ⟨#[], #[], rfl, by simp [VVs], by simp [VVs]⟩

theorem SR.ext (h : SR n ds X t a) (E : Ext X Y) : SR n ds Y t a := ⟨fun i => (h.v i).ext E, h.size, h.defers.ext E⟩

theorem SR.put (h : SR n ds X t a) {i : Nat} {v : AV} {c : Value} (hi : i < n) (hv : VV X v c) : SR n ds X (Lam.put i v t) (a.put (some i) c) := by
 have hs : i < a.tmps.size := Nat.lt_of_lt_of_le hi h.size
 refine ⟨fun j => ?_, by simpa [Act.put] using h.size, h.defers⟩
 rw [kR]
 simp only [Act.put, Array.getD_eq_getD_getElem?, Array.getElem?_setIfInBounds]
 by_cases e : i = j
 · subst e; simp [hs, hv]
 · simp only [if_neg e]
   have := h.v j
   rwa [Array.getD_eq_getD_getElem?] at this

theorem SR.putO (h : SR n ds X t a) {o : Option Nat} {v : AV} {c : Value} (hi : ∀ i, o = some i → i < n) (hv : VV X v c) : SR n ds X (Lam.putO o v t) (a.put o c) := by
 cases o with
 | none => exact ⟨h.v, h.size, h.defers⟩
 | some i => exact h.put (hi i rfl) hv

theorem SR.learn (h : SR n ds X t a) {i : Nat} {v : AV} (hv : VV X v (a.tmps.getD i undef)) : SR n ds X (Lam.put i v t) a := by
 refine ⟨fun j => ?_, h.size, h.defers⟩
 rw [kR]
 by_cases e : i = j
 · subst e; simpa using hv
 · rw [if_neg e]; exact h.v j
end

def OutR (Y : Cx) : AOut → Ending → Prop
 | .ret v, e => ∃ c, e = .returned c ∧ VV Y v c
 | .pan v, e => ∃ c, e = .panicked [{ v := c, recovered := false }] ∧ VV Y v c

structure SOk (P : Program) (envS : FuncId → Con) : Prop where
 spec : ∀ f args h K, envS f args h K → ∀ (X : Cx) (cs : Array Value), HR X → X.h = h → VVs X args cs.toList →
   (∀ w, (callFunc f cs).run P w = .ok (.enter f cs) w) ∧
     Calls P f cs X.w fun e w' => ∃ Y ao, Y.w = w' ∧ HR Y ∧ Ext X Y ∧ OutR Y ao e ∧ K ao Y.h

def YOk (P : Program) (B : Cx) (l : Nat) (Yc : Con) : Prop :=
 ∀ args h K, Yc args h K → ∀ (X : Cx) (cs : Array Value), Ext B X → HR X → X.h = h → VVs X args cs.toList →
   ∃ fn tmps assign body, (Instr.yield l cs).run P X.w = .ok (.round l fn tmps assign body) X.w ∧
     ∀ n, RoundIn (FW none) n P l fn tmps assign body X.w fun e w' => ∃ Y ao, Y.w = w' ∧ HR Y ∧ Ext X Y ∧ OutR Y ao e ∧ K ao Y.h

structure ISOk (P : Program) (iterS : FuncId → Con → Con) : Prop where
 spec : ∀ f Yc l cap h K, iterS f Yc (.fn (.yield l) [] [] :: cap) h K → ∀ (X : Cx) (cs : Array Value), YOk P X l Yc → HR X → X.h = h → VVs X (.fn (.yield l) [] [] :: cap) cs.toList →
   (∀ w, (callFunc f cs).run P w = .ok (.enter f cs) w) ∧
     Calls P f cs X.w fun e w' => ∃ Y ao, Y.w = w' ∧ HR Y ∧ Ext X Y ∧ OutR Y ao e ∧ K ao Y.h

theorem aHA {ro ro' : Option Nat} {n : Nat} {P : Program} {l : Nat} {f : FuncId} {tmps : Array Value} {assign body : Code} {w : World} {R : Ending → World → Prop}
   (h : RoundIn (FW ro) n P l f tmps assign body w R) : RoundIn (FW ro') n P l f tmps assign body w R := h

section
variable {X : Cx}

theorem aKn {x : AV} {c : Value} {n : Nat} {d : TyD} (hx : VV X x c) (h : AV.len d X.h x = some n) (hd : d.slc = true) : ∃ a cap, c = .slice a n cap ∧ (a = none → n = 0) := by
 unfold AV.len at h
 split at h
 · obtain ⟨a, cap, rfl, h1, _, h3, _⟩ := hx; cases h; exact ⟨a, cap, rfl, fun e => by have := h3 e; omega⟩
 · rename_i id ver off len
   obtain ⟨a, m, cap, rfl, k, ver', l, hl, _, h1⟩ := hx
   unfold lenO at h
   split at h
   · rename_i k2 v2 l2 hh
     rw [hh] at hl; cases hl
     split at h
     · rename_i e; cases h
       obtain ⟨rfl, h3, _, _, h5, _⟩ := h1 e
       exact ⟨a, cap, rfl, fun e => by have := h5 e; omega⟩
     · cases h
   · cases h
 · cases hd
 · cases hd
 · cases h
end

section
variable {ro : Option Nat} {P : Program} {n : Nat} {ds : DB} {X : Cx} {t : List (Nat × AV)} {a : Act} {o : Oper} {c : Ctx}

theorem aEB (C : mR P c) (CS : SOk P c.envS) (hdr : c.drawn = false) {B : Cx} (YY : ∀ l, YOk P B l (c.envY l)) (EB : Ext B X) (H : HR X) (R : SR n ds X t a) {K KP : AV → List AObj → Prop} {apps : List Nat} (hw : opW c apps t X.h o.op o.type K KP) (nf : Nat) {next : Act → World → Prop} {Q : Exit → Act → World → Prop}
   (hK : ∀ Y v r, HR Y → Ext X Y → K v Y.h → VV Y v r → next (a.put o.dst r) Y.w)
   (hKP : ∀ Y v r, HR Y → Ext X Y → KP v Y.h → VV Y v r → Q (.panic [{ v := r, recovered := false }]) a Y.w) :
   o.wpIn (FW ro) nf P a X.w next Q := by
 have fromD : OkD (opD c apps X.h.length t X.h o.op o.type) X.h K → o.wpIn (FW ro) nf P a X.w next Q := by
   rintro ⟨S, v, news, mm, e, hS, hk⟩
   obtain ⟨H', E'⟩ := vQ H news.length
   have R' := R.ext E'
   have hag : gO X.h (X.pad news.length).h (AV.idss (opVs t o.op)) := by
     intro id hid
     obtain ⟨v, hv, hj⟩ := yU hid
     obtain ⟨x, _, rfl⟩ := List.mem_map.1 hv
     have := aGl H.len (R.ev x .other) id hj
     rw [sW, if_pos this]
   rw [aAo hag] at e
   have hto := wH (ro := ro) (a := a) H' C (fun x _ d => R'.ev x d) (fun j hj => by rw [sW, if_neg (by omega), if_pos (by omega)]) e hS
   refine hto nf next Q fun r w' hg => ?_
   obtain ⟨Y, rfl, hYh, HY, EY, hv⟩ := hg
   refine hK Y v r HY (E'.trans EY) ?_ hv
   rw [hYh, show (X.pad news.length).h = X.h ++ List.replicate news.length .dead from rfl, wI]
   exact hk
 rcases aMv hw with hd | hsp
 · exact fromD hd
 · cases hsp with
   | nilEq xt x y b hop hn hs hk =>
     unfold rH at hk
     split at hk
     rotate_left
     · exact hk.elim
     rename_i m hm
     obtain ⟨ad, cap, hx, hz⟩ := aKn (R.ev x _) hm hs
     obtain ⟨e, hu⟩ : ∃ e, c.tab xt = .slice e := by
       cases h : c.tab xt <;> rw [h] at hs <;> first | exact ⟨_, rfl⟩ | cases hs
     obtain ⟨E, hu, _⟩ := jN (P := P) (T := xt) (e := e) (by rw [← hu]; exact C.tab xt)
     have hy : a.eval y = .slice none 0 0 := by
       unfold nP at hn
       split at hn
       · rfl
       · cases hn
     have hr : (execOp a.eval o).run P X.w = .ok (.value (.bool ad.isNone)) X.w := by
       have h1 : (eqGuard .eql xt x y (.slice ad m cap) (.slice none 0 0)).run P X.w = .ok () X.w := rfl
       have h2 : binOp .eql xt (.slice ad m cap) (.slice none 0 0) = (do pure (.bool (← Op.equal xt (.slice ad m cap) (.slice none 0 0)))) := rfl
       simp only [execOp, hop, hx, hy, Sem.run_bind, h1, h2, Result.andThen_ok, run_equal_slice_nil X.w xt E ad m cap hu, Sem.run_pure]
     have hto : OpTo ro P o a X.w (fun r w' => r = .bool ad.isNone ∧ w' = X.w) := OpTo.value (by rw [hop]; intro c h; cases h) hr ⟨rfl, rfl⟩
     refine hto nf next Q fun r w' hg => ?_
     obtain ⟨rfl, rfl⟩ := hg
     refine hK X (.bool ad.isNone) _ H (Ext.refl X) (hk _ fun h => hz ?_) rfl
     cases ad <;> first | rfl | cases h
   | panic x hop hk =>
     have hv := R.ev x .iface
     have : (∀ f, o.about P X.w a.eval = some f → (FW ro).fn f) := fun _ _ => trivial
     refine ⟨this, ?_⟩
     rw [Oper.semAt_eq _ _ _ (by rw [hop]; intro c h; cases h)]
     unfold panW at hk
     split at hk
     rotate_left
     · exact hk.elim
     rename_i T u hx
     rw [hx] at hv
     have hv' := hv
     simp only [VV] at hv'
     obtain ⟨z, he, _⟩ := hv'
     have hr : (execOp a.eval o).run P X.w = .halt (.panic (.iface T z)) X.w := by simp [execOp, hop, Instr.panic, he, goPanic]
     rw [hr]
     exact hKP X _ _ H (Ext.refl X) hk (by rw [← he]; exact hv)
   | call cl f hop hcal hl hk =>
     have hnd : ∀ c, o.op ≠ .defer c := by rw [hop]; intro c h; cases h
     have hop' := mJ cl
     have hargs : VVs X (lF c t cl) (cl.args.map a.eval).toList := by
       have := xS (X := X) (f := fun p : Operand × TypeId => Lam.ev t (c.tab p.2) p.1) (g := fun p => a.eval p.1) (l := cl.args.toList.zip cl.argTypes.toList)
         fun p hp => R.ev p.1 _
       rw [Array.toList_map]
       have e : (cl.args.toList.zip cl.argTypes.toList).map (fun p => a.eval p.1) = cl.args.toList.map a.eval := by
         rw [← xT hl, List.map_map]
         congr 1
         rw [xT hl]
       rw [← e]; exact this
     have hD : OkD (qA (xK apps cl.args.toList) c X.h.length (Lam.ev t .func f) (lF c t cl) X.h) X.h K → o.wpIn (FW ro) nf P a X.w next Q := by
       intro h
       apply fromD
       have hb : Nat.beq cl.args.toList.length cl.argTypes.toList.length = true := by rw [hl]; exact Nat.beq_refl _
       simp only [hop, opD, hcal, hb]
       exact h
     have hf := R.ev f .func
     unfold aQ at hk
     unfold qA at hD
     split at hk
     rotate_left
     · rename_i q l hfe
       rw [hfe] at hf
       simp only [VV] at hf
       obtain ⟨ca, cd, hfe, hf1, hf2⟩ := hf
       simp only [VVs, Array.toList_eq_nil_iff] at hf1 hf2
       subst hf1; subst hf2
       obtain ⟨fn, tmps, assign, body, hrun, hround⟩ := YY l _ _ _ hk X (cl.args.map a.eval) EB H rfl hargs
       have hrun' : (execOp a.eval o).run P X.w = .ok (.round l fn tmps assign body) X.w := by
         rw [← hrun]
         simp [execOp, hop, resolve, hcal, hfe, Deferred.ofValue, invoke]
       refine ⟨fun _ _ => trivial, ?_⟩
       rw [Oper.semAt_eq _ _ _ hnd, hrun']
       refine ⟨fun h => (by cases h), RoundIn.mono (aHA (hround (nf - 1))) fun e w'' he => ?_⟩
       obtain ⟨Y, ao, rfl, HY, EY, ho, hk2⟩ := he
       cases ao with
       | ret v =>
         obtain ⟨r, rfl, hv⟩ := ho
         exact hK Y v r HY EY hk2 hv
       | pan v =>
         obtain ⟨r, rfl, hv⟩ := ho
         exact hKP Y v r HY EY hk2 hv
     · exact hk.elim
     rename_i q fn first cap hfe
     rw [hfe] at hf hD
     simp only [VV] at hf hD
     obtain ⟨ca, cd, hfe, hf1, hf2⟩ := hf
     have hall : VVs X (first ++ lF c t cl ++ cap) ((ca ++ cl.args.map a.eval ++ cd).toList) := by
       rw [Array.toList_append, Array.toList_append]
       exact pK (pK hf1 hargs) hf2
     have hrun := aGj (P := P) hop hcal hfe X.w
     unfold mE at hk
     unfold xR at hD
     split at hk
     · rename_i S v news e
       rw [e] at hD
       exact hD ⟨_, _, _, _, rfl, hk.1, by simpa [dY] using hk.2⟩
     · rename_i S v news e
       split at hk
       · rename_i hns
         rw [e] at hD
         simp only [hns] at hD
         exact hD ⟨_, _, _, _, rfl, hk.1, by simpa [dY] using hk.2⟩
       · obtain ⟨us, e1, e2, e3⟩ := oV e
         obtain ⟨H1, E1⟩ := aAp H (ids := AV.rowss (first ++ lF c t cl ++ cap)) (fun id hid => sO hall id hid)
         have hc := C.fok.spec _ _ _ _ _ _ e3 hk.2.1 ⟨(X.fro (AV.rowss (first ++ lF c t cl ++ cap))).S, [], [], X.w⟩ (ca ++ cl.args.map a.eval ++ cd) rfl rfl (hr0 H1.old)
           (yV H (fun _ h => .inl h) (fun id hid b hb => .inr ⟨id, hid, hb⟩) e1 e2 hall)
         have hto : OpTo ro P o a X.w (fun r w' => ∃ Y, Y.w = w' ∧ HR Y ∧ Ext X Y ∧ Y.h = gU (AV.rowss (first ++ lF c t cl ++ cap)) X.h ∧ VV Y v r) := by
           refine OpTo.enter hnd (by rw [hrun, C.fok.enter _ _ _ e3]) (hc.mono fun e w'' he => ?_)
           obtain ⟨r, rfl, Y, rfl, HY, E, hcl, hvv⟩ := he
           obtain ⟨Z1, Z2⟩ := tJ (X := X.fro (AV.rowss (first ++ lF c t cl ++ cap))) H1 E HY
           exact ⟨⟨Y.S, X.μ, gU (AV.rowss (first ++ lF c t cl ++ cap)) X.h, Y.w⟩, rfl, Z1, E1.trans Z2, rfl,
             jL (X := Y) (Y := ⟨Y.S, X.μ, gU (AV.rowss (first ++ lF c t cl ++ cap)) X.h, Y.w⟩) (fun _ h => h) (fun _ _ => rfl) hcl hvv⟩
         refine hto nf next Q fun r w' hg => ?_
         obtain ⟨Y, rfl, HY, EY, hYh, hv⟩ := hg
         exact hK Y v r HY EY (by rw [hYh]; exact hk.2.2) hv
     · exact hk.elim
     · obtain ⟨hent, hcal2⟩ := CS.spec _ _ _ _ hk X (ca ++ cl.args.map a.eval ++ cd) H rfl hall
       refine ⟨fun _ _ => trivial, ?_⟩
       rw [Oper.semAt_eq _ _ _ hnd, hrun, hent]
       refine ⟨fun h => (by cases h), CallsIn.mono (aBU hcal2) fun e w'' he => ?_⟩
       obtain ⟨Y, ao, rfl, HY, EY, ho, hk2⟩ := he
       cases ao with
       | ret v =>
         obtain ⟨r, rfl, hv⟩ := ho
         exact hK Y v r HY EY hk2 hv
       | pan v =>
         obtain ⟨r, rfl, hv⟩ := ho
         exact hKP Y v r HY EY hk2 hv
end

end Lam
namespace Lam
open Go

def Kn (t : List (Nat × AV)) (kn : List (Nat × Option Bool)) : Prop :=
 ∀ g v, known g kn = some v → match v with
   | some b => get t g = .bool b
   | none => get t g = .und

theorem Kn.nil (t : List (Nat × AV)) : Kn t [] := fun g v h => by cases h

theorem aDd (g i : Nat) (b : Option Bool) (kn : List (Nat × Option Bool)) : known g ((i, b) :: kn) = if g = i then some b else known g kn := by
 simp only [known]
 by_cases h : g = i
 · subst h; simp
 · have : Nat.beq g i = false := by rw [Bool.eq_false_iff]; intro e; exact h (Nat.eq_of_beq_eq_true e)
   rw [this, if_neg h]

theorem Kn.unknow {t : List (Nat × AV)} {kn : List (Nat × Option Bool)} (h : Kn t kn) (d : Option Nat) (v : AV) : Kn (putO d v t) (unknow d kn) := by
 cases d with
 | none => exact h
 | some i =>
   simp only [Lam.unknow, putO]
   split
   · rename_i e
     intro g u hg
     have := h g u hg
     have hne : ¬ i = g := by rintro rfl; rw [e] at hg; cases hg
     simpa only [kR, if_neg hne] using this
   · exact Kn.nil _

theorem Kn.passed {t : List (Nat × AV)} {kn : List (Nat × Option Bool)} (h : Kn t kn) (d : Option Nat) : Kn (putO d .und t) (passed d kn) := by
 cases d with
 | none => exact h
 | some i =>
   simp only [Lam.passed, putO]
   split
   · rename_i e
     intro g u hg
     rw [aDd] at hg
     by_cases hgi : g = i
     · rw [if_pos hgi] at hg; cases hg
       simp only [kR, hgi, if_true]
     · rw [if_neg hgi] at hg
       have := h g u hg
       simpa only [kR, if_neg (Ne.symm hgi)] using this
   · exact Kn.nil _

theorem Kn.learn {t : List (Nat × AV)} {kn : List (Nat × Option Bool)} (h : Kn t kn) (g : Nat) (b : Bool) : Kn (put g (.bool b) t) ((g, some b) :: kn) := by
 intro i u hi
 rw [aDd] at hi
 by_cases e : i = g
 · rw [if_pos e] at hi; cases hi
   simp only [kR, e, if_true]
 · rw [if_neg e] at hi
   have := h i u hi
   simpa only [kR, if_neg (Ne.symm e)] using this

section
variable {n : Nat} {ds : DB} {X : Cx} {t : List (Nat × AV)} {a : Act} {ops : Array Oper}

theorem zT {j g : Nat} (h : jX ops.toList j = some g) : (ops[j]?).bind (·.dst) = some g := by
 simpa [jX] using h

theorem uL {j g : Nat} {b : Bool} (h : jX ops.toList j = some g) (hv : a.tmps.getD g undef = .bool b) : yielded ops a.tmps j = some b := by
 unfold yielded
 rw [zT h]
 simp only [Option.bind_some]
 rw [Array.getD_eq_getD_getElem?] at hv
 cases hx : a.tmps[g]? with
 | none => rw [hx] at hv; simp [undef] at hv
 | some v => rw [hx] at hv; simp at hv; simp [hv]

theorem aAr {j g : Nat} (h : jX ops.toList j = some g) (hv : a.tmps.getD g undef = undef) : yielded ops a.tmps j = none := by
 unfold yielded
 rw [zT h]
 simp only [Option.bind_some]
 rw [Array.getD_eq_getD_getElem?] at hv
 cases hx : a.tmps[g]? with
 | none => rfl
 | some v => rw [hx] at hv; simp at hv; subst hv; rfl
end

section
variable {ro : Option Nat} {P : Program} {n : Nat} {ds : DB} {c : Ctx}

theorem aEC {a : Act} (o : Option Nat) (q : Value) {i : Nat} (h : o ≠ some i) : (a.put o q).tmps.getD i undef = a.tmps.getD i undef := by
 cases o with
 | none => rfl
 | some j =>
   have hji : j ≠ i := fun e => h (by rw [e])
   simp [Act.put, Array.getD_eq_getD_getElem?, Array.getElem?_setIfInBounds, hji]

theorem aDe {a : Act} (o : Option Nat) (q : Value) : (a.put o q).defers = a.defers := by cases o <;> rfl

theorem nT {apps : List Nat} (C : mR P c) (CS : SOk P c.envS) (hdr : c.drawn = false) {B : Cx} (YY : ∀ l, YOk P B l (c.envY l)) (nf : Nat) (ops : Array Oper) {KP : List (Nat × AV) → AV → List AObj → Prop} {κ : List (Nat × AV) → List AObj → Prop} {Q : Exit → Act → World → Prop} {rest : List Oper} :
   ∀ (r : List Oper) (kn : List (Nat × Option Bool)) (t : List (Nat × AV)) (X : Cx) (a : Act), (∀ o ∈ r, ∀ i, o.dst = some i → i < n) → Kn t kn → Ext B X → HR X → SR n ds X t a → opsW c apps ops.toList KP κ r kn t X.h →
     (∀ Y t' a', HR Y → Ext X Y → SR n ds Y t' a' → ((∀ i, (∀ o ∈ r, o.dst ≠ some i) → a'.tmps.getD i undef = a.tmps.getD i undef) ∧ a'.defers = a.defers) → κ t' Y.h → wpListIn (FW ro) nf P ops Q rest a' Y.w) →
     (∀ Y t' v q a', HR Y → Ext X Y → SR n ds Y t' a' → KP t' v Y.h → VV Y v q → Q (.panic [{ v := q, recovered := false }]) a' Y.w) →
     wpListIn (FW ro) nf P ops Q (r ++ rest) a X.w
 | [], kn, t, X, a, _, _, EB, H, R, hw, hk, _ => hk X t a H (Ext.refl X) R ⟨fun _ _ => rfl, rfl⟩ hw
 | o :: r, kn, t, X, a, hd, hkn, EB, H, R, hw, hk, hkp => by
   have hdo := hd o (by simp)
   have hdr' : ∀ o ∈ r, ∀ i, o.dst = some i → i < n := fun o' h => hd o' (by simp [h])
   have step : ∀ (t : List (Nat × AV)) (kn : List (Nat × Option Bool)), Kn t kn → SR n ds X t a → opW c apps t X.h o.op o.type (fun v h' => opsW c apps ops.toList KP κ r (unknow o.dst kn) (putO o.dst v t) h') (KP t) →
       o.wpIn (FW ro) nf P a X.w (wpListIn (FW ro) nf P ops Q (r ++ rest)) Q := by
     intro t kn hkn R hw
     refine aEB C CS hdr YY EB H R hw nf (fun Y v q HY EY hk1 hv => ?_) (fun Y v q HY EY hk1 hv => hkp Y t v q a HY EY (R.ext EY) hk1 hv)
     refine nT C CS hdr YY nf ops r _ _ Y (a.put o.dst q) hdr' (hkn.unknow o.dst v) (EB.trans EY) HY ((R.ext EY).putO hdo hv) hk1 (fun Z t' a' HZ EZ RZ hs h => hk Z t' a' HZ (EY.trans EZ) RZ ⟨fun i hi => (hs.1 i fun o ho => hi o (by simp [ho])).trans (aEC _ _ (hi o (by simp))), hs.2.trans (aDe _ _)⟩ h)
       (fun Z t2 v q a' HZ EZ h1 h3 h4 => hkp Z t2 v q a' HZ (EY.trans EZ) h1 h3 h4)
   have pass : ∀ (t : List (Nat × AV)) (kn : List (Nat × Option Bool)), Kn t kn → SR n ds X t a → opsW c apps ops.toList KP κ r (passed o.dst kn) (putO o.dst .und t) X.h →
       (∀ f, o.about P X.w a.eval = some f → (FW ro).fn f) ∧ wpListIn (FW ro) nf P ops Q (r ++ rest) (a.put o.dst undef) X.w := by
     intro t kn hkn R hw
     refine ⟨fun _ _ => trivial, ?_⟩
     exact nT C CS hdr YY nf ops r _ _ X (a.put o.dst undef) hdr' (hkn.passed o.dst) EB H (R.putO hdo rfl) hw (fun Z t' a' HZ EZ RZ hs h => hk Z t' a' HZ EZ RZ ⟨fun i hi => (hs.1 i fun o ho => hi o (by simp [ho])).trans (aEC _ _ (hi o (by simp))), hs.2.trans (aDe _ _)⟩ h) hkp
   rw [List.cons_append]
   simp only [wpListIn]
   simp only [opsW] at hw
   split at hw
   · rename_i hg
     have : Region.wanted o (yielded ops a.tmps) = true := by simp [Region.wanted, hg]
     rw [if_pos this]
     exact step t kn hkn R hw
   · rename_i j want hg
     have wt : ∀ b, yielded ops a.tmps j = some b → Region.wanted o (yielded ops a.tmps) = (b == want) := by
       intro b hb; simp [Region.wanted, hg, hb]
     have wn : yielded ops a.tmps j = none → Region.wanted o (yielded ops a.tmps) = false := by
       intro hb; simp [Region.wanted, hg, hb]
     split at hw
     · exact hw.elim
     · rename_i g hgt
       split at hw
       · rename_i b hb
         have hv := R.v g
         rw [hkn g _ hb] at hv
         have hy := uL hgt hv
         split at hw
         · rename_i e
           rw [if_pos (by rw [wt b hy]; exact e)]
           exact step t kn hkn R hw
         · rename_i e
           rw [if_neg (by rw [wt b hy, e]; simp)]
           exact pass t kn hkn R hw
       · rename_i hb
         have hv := R.v g
         rw [hkn g _ hb] at hv
         have hy := aAr hgt hv
         rw [if_neg (by rw [wn hy]; simp)]
         exact pass t kn hkn R hw
       · unfold aT at hw
         split at hw
         rotate_left
         · exact hw.elim
         rename_i b hb
         have hv := R.v g
         rw [hb] at hv
         have hy := uL hgt hv
         by_cases e : b = want
         · subst e
           rw [if_pos (by rw [wt b hy]; simp)]
           exact step _ _ (hkn.learn g b) (R.learn hv) (hw.1 rfl)
         · have e' : b = !want := by cases b <;> cases want <;> simp_all
           rw [if_neg (by rw [wt b hy]; simpa using e)]
           refine pass _ _ (hkn.learn g (!want)) (R.learn (by rw [← e']; exact hv)) (hw.2 e')
theorem aGn : ∀ (r : List Oper) (t : List (Nat × AV)) (i : Nat), get (topD r t) i = .top ∨ ((∀ o ∈ r, o.dst ≠ some i) ∧ get (topD r t) i = get t i)
 | [], t, i => .inr ⟨fun o h => by simp at h, rfl⟩
 | o :: r, t, i => by
   simp only [topD]
   have ih := aGn r t i
   split
   · rename_i j hj
     rw [kR]
     by_cases e : j = i
     · rw [if_pos e]; exact .inl rfl
     · rw [if_neg e]
       refine ih.imp id fun ⟨h1, h2⟩ => ⟨fun o' ho' => ?_, h2⟩
       rcases List.mem_cons.1 ho' with rfl | ho'
       · rw [hj]; intro h; cases h; exact e rfl
       · exact h1 o' ho'
   · rename_i hj
     refine ih.imp id fun ⟨h1, h2⟩ => ⟨fun o' ho' => ?_, h2⟩
     rcases List.mem_cons.1 ho' with rfl | ho'
     · rw [hj]; intro h; cases h
     · exact h1 o' ho'

def aBd (L : List Nat) (t' t : List (Nat × AV)) : List (Nat × AV) :=
 match L with
 | [] => t
 | i :: L => aBd L t' (put i (get t' i) t)

theorem aGo : ∀ (L : List Nat) (f : List (Nat × AV) → List AObj → Prop) (t t' : List (Nat × AV)) (h : List AObj), appJ L (mkJ L f t) t' h = f (aBd L t' t) h
 | [], f, t, t', h => rfl
 | i :: L, f, t, t', h => by
   simp only [appJ, mkJ, aBd]
   exact aGo L f _ t' h

theorem aED : ∀ (L : List Nat) (t' t : List (Nat × AV)) (i : Nat), get (aBd L t' t) i = get t' i ∨ get (aBd L t' t) i = get t i
 | [], t', t, i => .inr rfl
 | j :: L, t', t, i => by
   simp only [aBd]
   rcases aED L t' (put j (get t' j) t) i with h | h
   · exact .inl h
   · rw [h, kR]
     by_cases e : j = i
     · subst e; rw [if_pos rfl]; exact .inl rfl
     · rw [if_neg e]; exact .inr rfl

theorem xB (C : mR P c) (CS : SOk P c.envS) (hdr : c.drawn = false) {B : Cx} (YY : ∀ l, YOk P B l (c.envY l)) (nf : Nat) (ops : Array Oper) {KP : List (Nat × AV) → AV → List AObj → Prop} {κ : List (Nat × AV) → List AObj → Prop} {Q : Exit → Act → World → Prop} :
   ∀ (cs : List (Nat × Option (List Nat))) (r : List Oper) (t : List (Nat × AV)) (X : Cx) (a : Act), (∀ o ∈ r, ∀ i, o.dst = some i → i < n) → Ext B X → HR X → SR n ds X t a → aCz c ops.toList KP κ cs r t X.h →
     (∀ Y t' a', HR Y → Ext X Y → SR n ds Y t' a' → κ t' Y.h → Q .normal a' Y.w) →
     (∀ Y t' v q a', HR Y → Ext X Y → SR n ds Y t' a' → KP t' v Y.h → VV Y v q → Q (.panic [{ v := q, recovered := false }]) a' Y.w) →
     wpListIn (FW ro) nf P ops Q r a X.w
 | [], r, t, X, a, hd, EB, H, R, hw, hk, hkp => by
   have := nT (ro := ro) (rest := []) C CS hdr YY nf ops r [] t X a hd (Kn.nil t) EB H R hw (fun Y t' a' HY EY RY _ h => by
     show Q .normal a' Y.w
     exact hk Y t' a' HY EY RY h) hkp
   simpa using this
 | (m, L) :: cs, r, t, X, a, hd, EB, H, R, hw, hk, hkp => by
   have hd1 : ∀ o ∈ r.take m, ∀ i, o.dst = some i → i < n := fun o ho => hd o (List.mem_of_mem_take ho)
   have hd2 : ∀ o ∈ r.drop m, ∀ i, o.dst = some i → i < n := fun o ho => hd o (List.mem_of_mem_drop ho)
   rw [← List.take_append_drop m r]
   simp only [aCz] at hw
   split at hw
   · exact nT (rest := r.drop m) C CS hdr YY nf ops (r.take m) [] t X a hd1 (Kn.nil t) EB H R hw (fun Y t' a' HY EY RY _ h =>
       xB C CS hdr YY nf ops cs (r.drop m) t' Y a' hd2 (EB.trans EY) HY RY h (fun Z t'' a'' HZ EZ RZ h => hk Z t'' a'' HZ (EY.trans EZ) RZ h) (fun Z t2 v q a'' HZ EZ h1 h3 h4 => hkp Z t2 v q a'' HZ (EY.trans EZ) h1 h3 h4)) hkp
   · rename_i L
     unfold aJ at hw
     refine nT (rest := r.drop m) C CS hdr YY nf ops (r.take m) [] t X a hd1 (Kn.nil t) EB H R hw (fun Y t' a' HY EY RY hs h => ?_) hkp
     rw [aGo] at h
     refine xB C CS hdr YY nf ops cs (r.drop m) _ Y a' hd2 (EB.trans EY) HY ⟨fun i => ?_, RY.size, RY.defers⟩ h (fun Z t'' a'' HZ EZ RZ h => hk Z t'' a'' HZ (EY.trans EZ) RZ h) (fun Z t2 v q a'' HZ EZ h1 h3 h4 => hkp Z t2 v q a'' HZ (EY.trans EZ) h1 h3 h4)
     rcases aED L t' (topD (r.take m) t) i with e | e
     · rw [e]; exact RY.v i
     · rw [e]
       rcases aGn (r.take m) t i with e | ⟨h1, e⟩
       · rw [e]; trivial
       · rw [e, hs.1 i h1]; exact (R.v i).ext EY

end

end Lam
namespace Lam
open Go

def Cx.drop (X : Cx) (n : Nat) : Cx := ⟨fun b => X.S b ∨ ∃ i, n ≤ i ∧ X.μ[i]? = some (some b), X.μ.take n, cJ n X.h, X.w⟩

theorem aIU (n : Nat) (h : List AObj) (o : Option AObj) : rowO (o.map (rJ n h)) = rowO o := by
 cases o with
 | none => rfl
 | some o => cases o <;> rfl

section
variable {X : Cx} {n : Nat}

theorem aGp (i : Nat) : (X.drop n).h[i]? = if i < n then (X.h[i]?).map (rJ n X.h) else none := by
 simp only [Cx.drop, cJ, List.getElem?_map, List.getElem?_take]
 split <;> rfl

theorem mK (i : Nat) : (X.drop n).μ[i]? = if i < n then X.μ[i]? else none := by
 simp only [Cx.drop, List.getElem?_take]

theorem qT {i : Nat} (hi : i < n) : rowO ((X.drop n).h[i]?) = rowO (X.h[i]?) := by
 rw [aGp, if_pos hi, aIU]

theorem vR {b : Nat} (h : X.S b) : (X.drop n).S b := .inl h

theorem aEE (H : HR X) {x : Bool} {id ver off len : Nat} {c : Value} (h : SrV X x id ver off len c) :
   VB (X.drop n) (qI n (X.h[id]?) id ver off len) c ∧ ((qI n (X.h[id]?) id ver off len).scalar = true ∧ (∀ f a b, qI n (X.h[id]?) id ver off len ≠ .fn f a b) ∧ (∀ t u, qI n (X.h[id]?) id ver off len ≠ .iface t u)) := by
 have h0 := h
 obtain ⟨a, m, cap, rfl, k, ver', l, hl, hv, g⟩ := h
 have hr := kZ hl
 by_cases e : ver = ver'
 · by_cases hi : id < n
   · simp only [qI, hr, if_pos e, if_pos hi]
     refine ⟨⟨a, m, cap, rfl, k, ver', l, by rw [qT hi]; exact hl, hv, fun e => ?_⟩, rfl, by intros; simp, by intros; simp⟩
     obtain ⟨g1, g2, g3, g4, g5, g6⟩ := g e
     refine ⟨g1, g2, g3, fun h => (by cases h), g5, fun hn => ?_⟩
     obtain ⟨b, q1, q2, q3⟩ := g6 hn
     exact ⟨b, by rw [mK, if_pos hi]; exact q1, q2, q3⟩
   · have hlo : mN (X.h[id]?) ver off len = some (l.cut off len) := by rw [hr]; simp [mN, e]
     have := aCc (Y := X.drop n) H h0 hlo fun b hb => ⟨.inr ⟨id, by omega, hb⟩, rfl⟩
     simp only [qI, hr, if_pos e, if_neg hi]
     exact ⟨this, rfl, by intros; simp, by intros; simp⟩
 · simp only [qI, hr, if_neg e]
   exact ⟨trivial, rfl, by intros; simp, by intros; simp⟩

theorem aGq {X : Cx} {v : AV} {c : Value} (h : VB X v c) (hs : v.scalar = true ∧ (∀ f a b, v ≠ .fn f a b) ∧ (∀ t u, v ≠ .iface t u)) : VV X v c := by
 obtain ⟨h1, h2, h3⟩ := hs
 cases v <;> first | exact h | (cases h1; done) | exact (h2 _ _ _ rfl).elim | exact (h3 _ _ rfl).elim

theorem aGr {X : Cx} {v : AV} {c : Value} (h : VB X v c) (hc : c.oneCell' = true) (hs : v.scalar = true ∧ (∀ f a b, v ≠ .fn f a b) ∧ (∀ t u, v ≠ .iface t u)) (hu : v ≠ .und) : VC X v [c] := by
 obtain ⟨h1, h2, h3⟩ := hs
 cases v <;> first | (simp only [VC]; exact ⟨c, rfl, h⟩) | (simp only [VC]; exact ⟨c, rfl, hc⟩) | (cases h1; done) | exact (h2 _ _ _ rfl).elim | exact (h3 _ _ rfl).elim | exact (hu rfl).elim

theorem aKo (n : Nat) (o : Option AObj) (id ver off len : Nat) : qI n o id ver off len ≠ .und := by
 unfold qI; split
 · split
   · split <;> simp
   · simp
 · simp

theorem aGs {id : Nat} {p : List PS} {c : Value} (hi : id < n) (h : PtV X id p c) : PtV (X.drop n) id p c := by
 have fin : ∀ p, (∃ b, X.μ[id]? = some (some b) ∧ c = .pointer (some ⟨b, offs p, none⟩) ∧ ∀ k ver l, rowO (X.h[id]?) = some (k, ver, l) → k ≠ .own) →
     ∃ b, (X.drop n).μ[id]? = some (some b) ∧ c = .pointer (some ⟨b, offs p, none⟩) ∧ ∀ k ver l, rowO ((X.drop n).h[id]?) = some (k, ver, l) → k ≠ .own := by
   rintro p ⟨b, q1, q2, q3⟩
   exact ⟨b, by rw [mK, if_pos hi]; exact q1, q2, by rw [qT hi]; exact q3⟩
 cases p with
 | nil => exact fin _ h
 | cons q r => cases q with
   | f _ _ => exact fin _ h
   | i _ _ _ =>
     obtain ⟨k, ver', l, hl, hv, ho, g⟩ := h
     exact ⟨k, ver', l, by rw [qT hi]; exact hl, hv, ho, fun e => by obtain ⟨b, q1, q2⟩ := g e; exact ⟨b, by rw [mK, if_pos hi]; exact q1, q2⟩⟩

mutual
theorem aDf (H : HR X) : ∀ {v : AV} {c : Value}, VV X v c → VV (X.drop n) (v.norm n X.h) c
 | .agg vs, c, h => by
   simp only [AV.norm, VV] at h ⊢
   obtain ⟨cs, rfl, h⟩ := h
   exact ⟨cs, rfl, aIV H h⟩
 | .tup vs, c, h => by
   simp only [AV.norm, VV] at h ⊢
   obtain ⟨cs, rfl, h⟩ := h
   exact ⟨cs, rfl, xV H h⟩
 | .fn f first cap, c, h => by
   simp only [AV.norm, VV] at h ⊢
   obtain ⟨a, d, rfl, h1, h2⟩ := h
   exact ⟨a, d, rfl, xV H h1, xV H h2⟩
 | .iface t v, c, h => by
   simp only [AV.norm, VV] at h ⊢
   obtain ⟨u, rfl, h⟩ := h
   exact ⟨u, rfl, aDf H h⟩
 | .sref x id ver off len, c, h => by
   simp only [AV.norm]
   have := aEE (n := n) H (x := x) (id := id) (ver := ver) (off := off) (len := len) h
   exact aGq this.1 this.2
 | .sl x l, c, h => by
   obtain ⟨a, cap, rfl, h1, h2, h3, h4⟩ := h
   exact ⟨a, cap, rfl, h1, fun h => (by cases h), h3, fun hn => by obtain ⟨ad, q1, q2, q3, q4⟩ := h4 hn; exact ⟨ad, q1, q2, vR q3, q4⟩⟩
 | .ptr id p, c, h => by
   simp only [AV.norm]
   split
   · rename_i hi; exact aGs hi h
   · trivial
 | .map id, c, h => by
   simp only [AV.norm]
   split
   · rename_i hi
     obtain ⟨b, q1, q2, q3⟩ := h
     exact ⟨b, by rw [mK, if_pos hi]; exact q1, q2, by rw [qT hi]; exact q3⟩
   · trivial
 | .ep l i fs, c, h => by
   obtain ⟨b, o, q1, q2, q3, q4⟩ := h
   exact ⟨b, o, q1, q2, vR q3, q4⟩
 | .arr l, _, h => h
 | .top, _, _ => trivial
 | .und, _, h => h
 | .int _ _, _, h => h
 | .bool _, _, h => h
 | .str _, _, h => h
 | .nilp, _, h => h
 | .nilfn, _, h => h
 | .niliface, _, h => h
theorem xV (H : HR X) : ∀ {vs : List AV} {cs : List Value}, VVs X vs cs → VVs (X.drop n) (AV.norms n X.h vs) cs
 | [], _, h => by simpa only [VVs, AV.norms] using h
 | v :: r, _, h => by
   simp only [AV.norms, VVs] at h ⊢
   obtain ⟨c, d, rfl, g1, g2⟩ := h
   exact ⟨c, d, rfl, aDf H g1, xV H g2⟩
theorem aKp (H : HR X) : ∀ {v : AV} {cs : List Value}, VC X v cs → VC (X.drop n) (v.norm n X.h) cs
 | .agg vs, c, h => by
   simp only [AV.norm, VC] at h ⊢
   exact aIV H h
 | .tup vs, c, h => by simp only [VC] at h
 | .fn f first cap, c, h => by
   simp only [AV.norm, VC] at h ⊢
   obtain ⟨a, d, rfl, h1, h2⟩ := h
   exact ⟨a, d, rfl, xV H h1, xV H h2⟩
 | .iface t v, c, h => by
   simp only [AV.norm, VC] at h ⊢
   obtain ⟨u, rfl, h⟩ := h
   exact ⟨u, rfl, aDf H h⟩
 | .sref x id ver off len, cs, h => by
   simp only [VC] at h
   obtain ⟨c, rfl, h⟩ := h
   simp only [AV.norm]
   have := aEE (n := n) H (x := x) (id := id) (ver := ver) (off := off) (len := len) h
   exact aGr this.1 (lE (v := .sref x id ver off len) h rfl) this.2 (aKo _ _ _ _ _ _)
 | .sl x l, cs, h => by
   simp only [VC] at h ⊢
   obtain ⟨c, rfl, h⟩ := h
   simp only [AV.norm, VC]
   exact ⟨c, rfl, aDf H (v := .sl x l) h⟩
 | .ptr id p, cs, h => by
   simp only [VC] at h
   obtain ⟨c, rfl, h⟩ := h
   simp only [AV.norm]
   split
   · rename_i hi; simp only [VC]; exact ⟨c, rfl, aGs hi h⟩
   · simp only [VC]; exact ⟨c, rfl, lE (v := .ptr id p) h rfl⟩
 | .map id, cs, h => by
   simp only [VC] at h
   obtain ⟨c, rfl, h⟩ := h
   simp only [AV.norm]
   split
   · rename_i hi
     simp only [VC]
     obtain ⟨b, q1, q2, q3⟩ := h
     exact ⟨c, rfl, b, by rw [mK, if_pos hi]; exact q1, q2, by rw [qT hi]; exact q3⟩
   · simp only [VC]; exact ⟨c, rfl, lE (v := .map id) h rfl⟩
 | .ep l i fs, cs, h => by
   simp only [AV.norm, VC] at h ⊢
   obtain ⟨c, rfl, b, o, q1, q2, q3, q4⟩ := h
   exact ⟨c, rfl, b, o, q1, q2, vR q3, q4⟩
 | .arr l, _, h => by simpa only [AV.norm, VC] using h
 | .top, _, h => by simpa only [AV.norm, VC] using h
 | .und, _, h => by simp only [VC] at h
 | .int _ _, _, h => by simp only [AV.norm, VC] at h ⊢; obtain ⟨c, rfl, h⟩ := h; exact ⟨c, rfl, h⟩
 | .bool _, _, h => by simp only [AV.norm, VC] at h ⊢; obtain ⟨c, rfl, h⟩ := h; exact ⟨c, rfl, h⟩
 | .str _, _, h => by simp only [AV.norm, VC] at h ⊢; obtain ⟨c, rfl, h⟩ := h; exact ⟨c, rfl, h⟩
 | .nilp, _, h => by simp only [AV.norm, VC] at h ⊢; obtain ⟨c, rfl, h⟩ := h; exact ⟨c, rfl, h⟩
 | .nilfn, _, h => by simp only [AV.norm, VC] at h ⊢; obtain ⟨c, rfl, h⟩ := h; exact ⟨c, rfl, h⟩
 | .niliface, _, h => by simp only [AV.norm, VC] at h ⊢; obtain ⟨c, rfl, h⟩ := h; exact ⟨c, rfl, h⟩
theorem aIV (H : HR X) : ∀ {vs : List AV} {cs : List Value}, VCs X vs cs → VCs (X.drop n) (AV.norms n X.h vs) cs
 | [], _, h => by simpa only [VCs, AV.norms] using h
 | v :: r, _, h => by
   simp only [AV.norms, VCs] at h ⊢
   obtain ⟨c, d, rfl, g1, g2⟩ := h
   exact ⟨c, d, rfl, aKp H g1, aIV H g2⟩
end

theorem aBe (H : HR X) : HR (X.drop n) := by
 refine ⟨by simp [Cx.drop, cJ, H.len], fun i o ho => ?_, fun i j b h1 h2 => ?_, fun i b hb => ?_, fun b hb => ?_⟩
 · rw [aGp] at ho; rw [mK]
   split at ho
   · rename_i hi
     rw [if_pos hi]
     cases hx : X.h[i]? with
     | none => rw [hx] at ho; cases ho
     | some o' =>
       rw [hx] at ho; cases ho
       obtain ⟨b, hb, hor⟩ := H.obj i o' hx
       refine ⟨b, hb, ?_⟩
       cases o' with
       | box v =>
         obtain ⟨b', cs, elem, rfl, q1, q2⟩ := hor
         exact ⟨b', cs, elem, rfl, q1, aKp H q2⟩
       | row k ver l =>
         rcases hor with hor | ⟨b', cs, elem, rfl, q1, q2, q3⟩
         · exact .inl hor
         · exact .inr ⟨b', cs, elem, rfl, q1, q2, fun hk => vR (q3 hk)⟩
       | map m => exact hor
       | lp st pd r => exact hor
       | dead => exact hor
   · cases ho
 · rw [mK] at h1 h2
   split at h1
   · split at h2
     · exact H.apart _ _ _ h1 h2
     · cases h2
   · cases h1
 · rw [mK] at hb
   split at hb
   · rename_i hi
     refine ⟨(H.live _ _ hb).1, fun hs => ?_⟩
     rcases hs with hs | ⟨j, hj, hs⟩
     · obtain ⟨ver, l, e⟩ := (H.live _ _ hb).2 hs
       exact ⟨ver, l, by rw [aGp, if_pos hi, e]; rfl⟩
     · have := H.apart _ _ _ hb hs; omega
   · cases hb
 · rcases hb with hb | ⟨j, _, hb⟩
   · exact H.old b hb
   · exact (H.live _ _ hb).1

theorem nC.drop {base : Nat} : ∀ {ds : List Deferred}, nC base X ds → nC base (X.drop n) ds
 | [], _ => trivial
 | d :: ds, ⟨⟨r, e, h1, h2, h3, h4, h5⟩, h⟩ => by
   refine ⟨⟨r, e, h1, h2, fun i hi => ?_, fun hs => ?_, h5⟩, nC.drop h⟩
   · rw [mK] at hi
     split at hi
     · exact h3 i hi
     · cases hi
   · rcases hs with hs | ⟨i, _, hs⟩
     · exact h4 hs
     · exact h3 i hs

theorem lR.drop {B : DB} {l : List Deferred} (h : lR B X l) : lR B (X.drop n) l := by
 obtain ⟨m, e, hm⟩ := h
 exact ⟨m, e, hm.drop⟩

theorem yW {X0 : Cx} (H0 : HR X0) (E : Ext X0 X) (hl : X0.h.length ≤ n) : Ext X0 (X.drop n) := by
 refine ⟨fun b h => vR (E.S b h), E.cells, fun b hb => ?_, fun i b hb => ?_, E.keep, E.grow, fun i k ver l hr => ?_, fun i b h1 h2 => ?_, E.env⟩
 · rcases hb with hb | ⟨j, _, hb⟩
   · exact E.new b hb
   · rcases E.muinv j b hb with h | h
     · exact .inr (.inl ⟨j, h⟩)
     · exact .inr (.inr h)
 · rw [mK] at hb
   split at hb
   · exact E.muinv i b hb
   · cases hb
 · have hi : i < n := Nat.lt_of_lt_of_le (aEd hr) hl
   obtain ⟨k', ver', l', h1, h2, h3, h4⟩ := E.row i k ver l hr
   refine ⟨k', ver', l', by rw [qT hi]; exact h1, h2, fun e => ?_, h4⟩
   obtain ⟨g1, g2, g3⟩ := h3 e
   refine ⟨g1, g2, fun b hb => ?_⟩
   obtain ⟨q1, q2⟩ := g3 b hb
   exact ⟨by rw [mK, if_pos hi]; exact q1, q2⟩
 · have hi : i < n := by
     have : i < X0.μ.length := (List.getElem?_eq_some_iff.1 h2).1
     rw [H0.len] at this; omega
   obtain ⟨q1, q2⟩ := E.oth i b h1 h2
   exact ⟨by rw [mK, if_pos hi]; exact q1, by rw [qT hi]; exact q2⟩
end

end Lam
namespace Lam
open Go

section
variable {P : Program} {b : Frame} {a : Act} {k : List Item} {cs : List Frame} {w : World}
theorem kU {c : Code} : step P (lone (b.atR a (.code (.scope c) :: k)) cs w) = .next (lone (b.atR a (.code c :: .inScope c :: k)) cs w) :=
 step_lone_go (by simp [stepG, stepG.exec, Frame.atR])
theorem zU {c : Code} : step P (lone (b.atR a (.inScope c :: k)) cs w) = .next (lone (b.atR a k) cs w) :=
 step_lone_go (by simp [stepG, stepG.exec, Frame.atR])
end

def aFE (c : Code) (J : Nat → Act → World → Prop) (Q : Exit → Act → World → Prop) : Exit → Act → World → Prop
 | .goto l, a, w => if (findLabel c l).isSome = true then J l a w else Q (.goto l) a w
 | e, a, w => Q e a w

def aNx (Q : Exit → Act → World → Prop) : Exit → Act → World → Prop
 | .goto _, _, _ => False
 | e, a, w => Q e a w

section
variable {F : Fence} {n : Nat} {P : Program} {a : Act} {w : World} {Q : Exit → Act → World → Prop}

theorem aIW {c : Code} (J : Nat → Act → World → Prop) (first : c.wpIn F n P (aFE c J Q) a w)
   (pass : ∀ l rest a w, findLabel c l = some rest → J l a w → rest.wpIn F n P (aNx Q) a w) : (Code.scope c).wpIn F n P Q a w := by
 intro b k cs hro hb hr
 have h0 : (lone (b.atR a (.code (.scope c) :: k)) cs w).fenced P F := fenced_calm hb hr rfl
 obtain ⟨e, a₁, w₁, hq, harr⟩ := first b (.inScope c :: k) cs hro hb hr
 cases e with
 | normal => exact ⟨.normal, a₁, w₁, hq, .head h0 kU (StepsIn.trans harr (.one (fenced_calm hb hr rfl) zU))⟩
 | exit id =>
   have hx : exitTo id (.inScope c :: k) = exitTo id k := by simp [exitTo]
   exact ⟨_, a₁, w₁, hq, fun k' hk => .head h0 kU (harr.1 k' (by rw [hx]; exact hk)),
     fun hr' hk => let ⟨k₁, h1, h2⟩ := harr.2 hr' (by rw [hx]; exact hk); ⟨k₁, h1, .head h0 kU h2⟩⟩
 | goto l =>
   cases hf : findLabel c l with
   | some rest =>
     have hx : gotoIn l (.inScope c :: k) = some (.code rest :: .inScope c :: k) := by simp [gotoIn, hf]
     simp only [aFE, hf, Option.isSome_some, if_true] at hq
     have h1 := StepsIn.trans (.one h0 kU) (harr.1 _ hx)
     obtain ⟨e₂, a₂, w₂, hq₂, harr₂⟩ := pass l rest a₁ w₁ hf hq b (.inScope c :: k) cs hro hb hr
     cases e₂ with
     | normal => exact ⟨.normal, a₂, w₂, hq₂, StepsIn.trans h1 (StepsIn.trans harr₂ (.one (fenced_calm hb hr rfl) zU))⟩
     | exit id =>
       have hx : exitTo id (.inScope c :: k) = exitTo id k := by simp [exitTo]
       exact ⟨_, a₂, w₂, hq₂, fun k' hk => StepsIn.trans h1 (harr₂.1 k' (by rw [hx]; exact hk)),
         fun hr' hk => let ⟨k₁, g1, g2⟩ := harr₂.2 hr' (by rw [hx]; exact hk); ⟨k₁, g1, StepsIn.trans h1 g2⟩⟩
     | goto l => exact hq₂.elim
     | ret => exact ⟨_, a₂, w₂, hq₂, .of_steps h1 harr₂⟩
     | panic ch => exact ⟨_, a₂, w₂, hq₂, .of_steps h1 harr₂⟩
     | outgrown => exact ⟨_, a₂, w₂, hq₂, .of_steps h1 harr₂⟩
   | none =>
     have hx : gotoIn l (.inScope c :: k) = gotoIn l k := by simp [gotoIn, hf]
     simp only [aFE, hf, Option.isSome_none, Bool.false_eq_true, if_false] at hq
     exact ⟨_, a₁, w₁, hq, fun k' hk => .head h0 kU (harr.1 k' (by rw [hx]; exact hk)),
       fun hr' hk => let ⟨k₁, h1, h2⟩ := harr.2 hr' (by rw [hx]; exact hk); ⟨k₁, h1, .head h0 kU h2⟩⟩
 | ret => exact ⟨_, a₁, w₁, hq, .of_steps (.one h0 kU) harr⟩
 | panic ch => exact ⟨_, a₁, w₁, hq, .of_steps (.one h0 kU) harr⟩
 | outgrown => exact ⟨_, a₁, w₁, hq, .of_steps (.one h0 kU) harr⟩

theorem aBD {c : Code} (J : Nat → Act → World → Prop) (m₀ : Nat) (h₀ : J m₀ a w)
   (round : ∀ m a w, J m a w → c.wpIn F n P (Exit.then (fun a' w' => ∃ m', m' < m ∧ J m' a' w') Q) a w) : (Code.loop c).wpIn F n P Q a w := by
 intro b k cs hro hb hr
 have key : ∀ m a w, J m a w →
     ∃ e a' w', Q e a' w' ∧ ArrivesIn (Machine.fenced P F) P (lone (b.atR a (.code c :: .inLoop c :: k)) cs w) b k cs e a' w' := by
   intro m
   induction m using Nat.strongRecOn with
   | _ m ih =>
     intro a w hI
     obtain ⟨e, a₁, w₁, hq, harr⟩ := round m a w hI b (.inLoop c :: k) cs hro hb hr
     cases e with
     | normal =>
       obtain ⟨m', hlt, hI₁⟩ := hq
       obtain ⟨e₂, a₂, w₂, hq₂, harr₂⟩ := ih m' hlt a₁ w₁ hI₁
       exact ⟨e₂, a₂, w₂, hq₂, .of_steps (StepsIn.trans harr (.one (fenced_calm hb hr rfl) stepR_inLoop)) harr₂⟩
     | exit id => exact ⟨_, a₁, w₁, hq, .pass (x := .inLoop c) rfl (fun _ _ => .inl (by simp)) harr⟩
     | goto l => exact ⟨_, a₁, w₁, hq, .pass (x := .inLoop c) rfl (fun _ _ => .inl (by simp)) harr⟩
     | ret => exact ⟨_, a₁, w₁, hq, .pass (x := .inLoop c) rfl (fun _ _ => .inl (by simp)) harr⟩
     | panic ch => exact ⟨_, a₁, w₁, hq, .pass (x := .inLoop c) rfl (fun _ _ => .inl (by simp)) harr⟩
     | outgrown => exact ⟨_, a₁, w₁, hq, .pass (x := .inLoop c) rfl (fun _ _ => .inl (by simp)) harr⟩
 obtain ⟨e, a', w', hq, harr⟩ := key _ a w h₀
 exact ⟨e, a', w', hq, .of_steps (.one (fenced_calm hb hr rfl) stepR_loop) harr⟩
end

theorem sX (l : Nat) : ∀ (c : Code), qR c l = (findLabel c l).isSome
 | .seq a b => by
   simp only [qR, findLabel, sX l a, sX l b]
   cases findLabel a l <;> simp
 | .label l' => by
   simp only [qR, findLabel]
   by_cases h : l' = l
   · subst h; simp
   · have : Nat.beq l' l = false := by rw [Bool.eq_false_iff]; intro e; exact h (Nat.eq_of_beq_eq_true e)
     simp [this, h]
 | .skip => rfl
 | .region _ _ _ => rfl
 | .cond _ _ _ => rfl
 | .block _ _ => rfl
 | .loop _ => rfl
 | .rangeFunc _ _ _ _ => rfl
 | .scope _ => rfl
 | .exit _ => rfl
 | .ret => rfl
 | .goto _ => rfl
 | .refuse _ => rfl

/-! ### Values of some temporaries -/
def TV (X : Cx) (a : Act) : List Nat → List AV → Prop
 | [], vs => vs = []
 | i :: L, vs => match vs with
   | [] => False
   | v :: r => VV X v (a.tmps.getD i undef) ∧ TV X a L r

section
variable {X Y : Cx} {a : Act} {n : Nat} {ds : DB} {t : List (Nat × AV)}

theorem TV.ext (E : Ext X Y) : ∀ {L : List Nat} {vs : List AV}, TV X a L vs → TV Y a L vs
 | [], _, h => h
 | i :: L, [], h => h.elim
 | i :: L, v :: r, h => ⟨h.1.ext E, TV.ext E h.2⟩

theorem TV.len : ∀ {L : List Nat} {vs : List AV}, TV X a L vs → vs.length = L.length
 | [], _, h => by rw [show _ = [] from h]; rfl
 | i :: L, [], h => h.elim
 | i :: L, v :: r, h => by simp [TV.len h.2]

theorem TV.of_gets (R : SR n ds X t a) : ∀ (L : List Nat), TV X a L (gets t L)
 | [] => rfl
 | i :: L => ⟨R.v i, TV.of_gets R L⟩

theorem TV.norm (H : HR X) {m : Nat} : ∀ {L : List Nat} {vs : List AV}, TV X a L vs → TV (X.drop m) a L (AV.norms m X.h vs)
 | [], _, h => by rw [show _ = [] from h]; rfl
 | i :: L, [], h => h.elim
 | i :: L, v :: r, h => ⟨aDf H h.1, TV.norm H h.2⟩

theorem TV.get {t : List (Nat × AV)} (ht : ∀ i, VV X (get t i) (a.tmps.getD i undef)) : ∀ {L : List Nat} {vs : List AV}, TV X a L vs → ∀ i, VV X (get (zipT L vs ++ t) i) (a.tmps.getD i undef)
 | [], _, h => by rw [show _ = [] from h]; exact ht
 | j :: L, [], h => h.elim
 | j :: L, v :: r, h => fun i => by
   simp only [zipT, List.cons_append]
   have : Lam.get ((j, v) :: (zipT L r ++ t)) i = Lam.get (put j v (zipT L r ++ t)) i := rfl
   rw [this, kR]
   by_cases e : j = i
   · subst e; rw [if_pos rfl]; exact h.1
   · rw [if_neg e]; exact TV.get ht h.2 i

theorem SR.of_TV {L M : List Nat} {vs us : List AV} (h1 : TV X a L vs) (h2 : TV X a M us) (hs : n ≤ a.tmps.size) (hd : lR ds X a.defers) : SR n ds X (zipT L vs ++ zipT M us) a := by
 refine ⟨TV.get (fun i => ?_) h1, hs, hd⟩
 have := TV.get (t := []) (fun i => trivial) h2 i
 simpa using this

theorem SR.of_TV3 {L M N : List Nat} {vs us ws : List AV} (h1 : TV X a L vs) (h2 : TV X a M us) (h3 : TV X a N ws) (hs : n ≤ a.tmps.size) (hd : lR ds X a.defers) : SR n ds X (zipT L vs ++ (zipT M us ++ zipT N ws)) a := by
 refine ⟨TV.get (TV.get (fun i => ?_) h2) h1, hs, hd⟩
 have := TV.get (t := []) (fun i => trivial) h3 i
 rwa [List.append_nil] at this

theorem TV.closed (hS : ∀ b, X.S b → Y.S b) (hw : ∀ b, X.S b → Y.w.heap[b]? = X.w.heap[b]?) : ∀ {L : List Nat} {vs : List AV}, AV.closeds vs = true → TV X a L vs → TV Y a L vs
 | [], [], _, h => h
 | i :: L, v :: r, hc, h => by
   simp only [AV.closeds, Bool.and_eq_true] at hc
   exact ⟨jL hS hw hc.1 h.1, TV.closed hS hw hc.2 h.2⟩

theorem vS : ∀ {L : List Nat} {P : List (Nat × AV) → List AV → Prop}, aDP L P → ∀ vs : List AV, vs.length = L.length → P (zipT L vs) vs
 | [], P, h, vs, hl => by
   have : vs = [] := List.eq_nil_of_length_eq_zero hl
   subst this; exact h
 | i :: L, P, h, [], hl => by simp at hl
 | i :: L, P, h, v :: r, hl => by
   have := vS (h v) r (by simpa using hl)
   exact this

theorem aCf (H : HR X) {l : Lst} {c : Value} (hl : l.len = 0) (h : SlV X true l c) :
   ∃ Y : Cx, Y.w = X.w ∧ HR Y ∧ Ext X Y ∧ Y.h = X.h ++ [.row .own 0 l] ∧ VV Y (.sref false X.h.length 0 0 0) c := by
 obtain ⟨ad, cap, rfl, h1, h2, h3, _⟩ := h
 have hc : cap = 0 := by rw [h2 rfl, hl]
 subst hc
 obtain ⟨H', E'⟩ := vQ H 1
 obtain ⟨Y, hw, hh, HY, EY, hv⟩ := aEv H' (s := X.h.length) (a := ad) (by rw [sW, if_neg (by omega), if_pos (by omega)]) hl
 refine ⟨Y, hw, HY, E'.trans EY, ?_, by rw [hl]; exact hv⟩
 rw [hh]
 have := wI (h := X.h) [AObj.row .own 0 l]
 simpa [eV, Cx.pad] using this

theorem xC : ∀ (fs : List Bool) (vs : List AV) {K : List AV → List AObj → Prop} {X : Cx} {L : List Nat}, HR X → TV X a L vs → dC fs vs X.h K →
   ∃ (Y : Cx) (us : List AV), Y.w = X.w ∧ HR Y ∧ Ext X Y ∧ TV Y a L us ∧ K us Y.h
 | [], vs, K, X, L, H, ht, hp => by
   have hp : K vs X.h := by cases vs <;> simpa [dC] using hp
   exact ⟨X, vs, rfl, H, Ext.refl X, ht, hp⟩
 | f :: fs, [], K, X, L, H, ht, hp => by
   have hp : K [] X.h := by cases f <;> simpa [dC] using hp
   exact ⟨X, [], rfl, H, Ext.refl X, ht, hp⟩
 | f :: fs, v :: vs, K, X, [], H, ht, hp => by cases ht
 | f :: fs, v :: vs, K, X, i :: L, H, ht, hp => by
   have plain : (dC fs vs X.h fun us h' => K (v :: us) h') → ∃ (Y : Cx) (us : List AV), Y.w = X.w ∧ HR Y ∧ Ext X Y ∧ TV Y a (i :: L) us ∧ K us Y.h := by
     intro hp
     obtain ⟨Y, us, h1, h2, h3, h4, h5⟩ := xC fs vs H ht.2 hp
     exact ⟨Y, v :: us, h1, h2, h3, ⟨ht.1.ext h3, h4⟩, h5⟩
   cases f with
   | false => exact plain (by simpa [dC] using hp)
   | true =>
     have hp' := hp
     simp only [dC] at hp
     split at hp
     · rename_i l
       obtain ⟨hl, hp⟩ := hp
       obtain ⟨Y, hw, HY, EY, hh, hv⟩ := aCf H hl ht.1
       rw [← hh] at hp
       obtain ⟨Z, us, h1, h2, h3, h4, h5⟩ := xC fs vs HY (ht.2.ext EY) hp
       exact ⟨Z, _ :: us, by rw [h1, hw], h2, EY.trans h3, ⟨hv.ext h3, h4⟩, h5⟩
     · exact plain hp
end

end Lam
namespace Lam
open Go

/-! ### What an operation writes and reads -/
theorem tK {x : D} {S : Prop} {v : AV} {news : List AObj} {mm : Option (Nat × AObj)} (h : ofD x = some (S, v, news, mm)) : mm = none := (iW h).2

theorem aKq {d : TyD} {h : List AObj} {a v : AV} {S : Prop} {id : Nat} {o : AObj} (e : aO d h a v = some (S, id, o)) : id ∈ a.ids := by
 unfold aO at e
 split at e
 · split at e
   · cases e; simp [AV.ids]
   · cases e
 · cases e

theorem aDg {d : TyD} {h : List AObj} {a k v : AV} {S : Prop} {id : Nat} {o : AObj} (e : jQ d h a k v = some (S, id, o)) : id ∈ a.ids := by
 unfold jQ at e
 split at e
 · split at e
   · cases e; simp [AV.ids]
   · cases e
 · cases e

theorem aDh {d : TyD} {h : List AObj} {s x : AV} {S : Prop} {v : AV} {id : Nat} {o : AObj} (e : fW d h s x = some (S, v, id, o)) : id ∈ s.ids := by
 unfold fW at e
 split at e
 · split at e
   · unfold uX at e
     split at e
     · split at e
       · split at e
         · cases e; simp [AV.ids]
         · cases e
       · cases e
     · cases e
   · cases e
 · cases e

theorem aLH {d : TyD} {h : List AObj} {s x : AV} {S : Prop} {v : AV} {id : Nat} {o : AObj} (e : mD d h s x = some (S, v, id, o)) : id ∈ s.ids := by
 unfold mD at e
 split at e
 · split at e
   · unfold yL at e
     split at e
     · split at e
       · split at e
         · cases e; simp [AV.ids]
         · cases e
       · cases e
     · cases e
   · cases e
 · cases e

theorem aKr {d : TyD} {h : List AObj} {s : AV} {S : Prop} {v : AV} {id : Nat} {o : AObj} (e : oA d h s = some (S, v, id, o)) : id ∈ s.ids := by
 unfold oA at e
 split at e
 · split at e
   · unfold aCy at e
     split at e
     · split at e
       · split at e
         · cases e; simp [AV.ids]
         · cases e
       · cases e
     · cases e
   · cases e
 · cases e

theorem aIi {x : D} {y : Option (Prop × AV × Nat × AObj)} {S : Prop} {v : AV} {news : List AObj} {id : Nat} {o : AObj} (h : ofDM x y = some (S, v, news, some (id, o))) : ∃ S v, y = some (S, v, id, o) := by
 unfold ofDM at h
 split at h
 · cases tK h
 · obtain ⟨id', o', e, _, e2⟩ := vC h
   cases e2; exact ⟨_, _, e⟩

theorem aKs {d e : TyD} {s x : AV} {h : List AObj} {n : Nat} {S : Prop} {v : AV} {news : List AObj} {id : Nat} {o : AObj} (hh : nR d e s x h n = some (S, v, news, some (id, o))) : id ∈ s.ids := by
 unfold nR at hh
 split at hh
 · obtain ⟨_, _, e⟩ := aIi hh; exact aDh e
 · split at hh
   · unfold aFD at hh
     split at hh
     · rename_i e1; cases hh
       obtain ⟨_, _, e⟩ := aIi e1; exact aDh e
     · cases hh
   · cases hh
 · cases hh

theorem aIX {b : Builtin} {ds : List TyD} {args : List AV} {h : List AObj} {n : Nat} {S : Prop} {v : AV} {news : List AObj} {id : Nat} {o : AObj}
   (hh : mQ b ds args h n = some (S, v, news, some (id, o))) : (b = .append ∨ b = .copy ∨ b = .clear) ∧ ∃ x r, args = x :: r ∧ id ∈ x.ids := by
 unfold mQ at hh
 split at hh
 · cases tK hh
 · cases tK hh
 · cases tK hh
 · exact ⟨.inl rfl, _, _, rfl, aKs hh⟩
 · obtain ⟨id', o', e, _, e2⟩ := vC hh; cases e2
   exact ⟨.inr (.inl rfl), _, _, rfl, aLH e⟩
 · obtain ⟨id', o', e, _, e2⟩ := vC hh; cases e2
   exact ⟨.inr (.inr rfl), _, _, rfl, aKr e⟩
 · cases hh

theorem aKt {mt : Bool} {c : Ctx} {s : Nat} {f : AV} {args : List AV} {h : List AObj} {S : Prop} {v : AV} {news : List AObj} {id : Nat} {o : AObj} (hh : qA mt c s f args h = some (S, v, news, some (id, o))) :
   mt = true ∧ ∃ x i ver off len, args.getLast? = some (.sref x i ver off len) ∧ i = id := by
 unfold qA at hh
 split at hh
 · unfold xR at hh
   split at hh
   · cases hh
   · split at hh
     · cases hh
     · split at hh
       · cases hh
       · split at hh
         · rename_i hla
           replace hla := of_decide_eq_true hla
           simp only [Option.some.injEq, Prod.mk.injEq, Option.map_eq_some_iff] at hh
           obtain ⟨_, _, _, q, _, rfl, _⟩ := hh
           unfold oB at hla
           split at hla
           · rename_i q1 q2 q3 q4 q5 q6 q7 he
             exact ⟨rfl, _, _, _, _, _, he, by simpa using hla⟩
           · cases hla
         · cases hh
       · cases hh
   · cases hh
 · cases hh

theorem oW (t : List (Nat × AV)) (d : TyD) {x : Operand} {id : Nat} (h : id ∈ (ev t d x).ids) : id ∈ (ev t .other x).ids := by rw [aKh t .other d]; exact h

theorem aMV {c : Ctx} {apps : List Nat} {s : Nat} {t : List (Nat × AV)} {h : List AObj} {oo : Oper} {S : Prop} {v : AV} {news : List AObj} {id : Nat} {o : AObj}
   (hh : opD c apps s t h oo.op oo.type = some (S, v, news, some (id, o))) : ∃ x, nB apps oo = some x ∧ x ∈ oo.op.operands.toList ∧ id ∈ (ev t .other x).ids ∧ mO oo = true := by
 cases ho : oo.op with
 | store T a y =>
   rw [ho] at hh
   obtain ⟨id', o', e, _, _, e2⟩ := vB hh; cases e2
   exact ⟨a, by simp [nB, ho], by simp [Op.operands], oW t _ (aKq e), by simp [mO, ho]⟩
 | mapUpdate T m k y =>
   rw [ho] at hh
   obtain ⟨id', o', e, _, _, e2⟩ := vB hh; cases e2
   exact ⟨m, by simp [nB, ho], by simp [Op.operands], oW t _ (aDg e), by simp [mO, ho]⟩
 | insert T m k y =>
   rw [ho] at hh
   obtain ⟨id', o', e, _, _, e2⟩ := vB hh; cases e2
   exact ⟨m, by simp [nB, ho], by simp [Op.operands], oW t _ (aDg e), by simp [mO, ho]⟩
 | call cl =>
   rw [ho] at hh
   simp only [opD] at hh
   split at hh
   · cases hh
   rename_i hl
   have hl := Nat.eq_of_beq_eq_true hl
   split at hh
   · rename_i b hb
     obtain ⟨hb2, x, r, hx, hid⟩ := aIX hh
     cases hargs : cl.args.toList with
     | nil => rw [lF, hargs] at hx; cases hx
     | cons y ys =>
       cases htys : cl.argTypes.toList with
       | nil => rw [lF, hargs, htys] at hx; cases hx
       | cons T Ts =>
         rw [lF, hargs, htys] at hx
         simp only [List.zip_cons_cons, List.map_cons, List.cons.injEq] at hx
         rw [← hx.1] at hid
         have h0 : cl.args[0]? = some y := by rw [← Array.getElem?_toList, hargs]; rfl
         obtain ⟨callee, args, argTypes⟩ := cl
         simp only at hb h0
         refine ⟨y, ?_, (mJ _).1 y (by rw [hargs]; simp), oW t _ hid, by simp [mO, ho]⟩
         subst hb
         rcases hb2 with rfl | rfl | rfl <;> simp [nB, ho, h0]
   · rename_i f hb
     obtain ⟨hmt, x, i, ver, off, len, hx, rfl⟩ := aKt hh
     have hmt' := hmt
     unfold xK at hmt
     split at hmt
     rotate_left
     · cases hmt
     rename_i j hj
     obtain ⟨ys, hys⟩ := List.getLast?_eq_some_iff.1 hj
     have hlx : (lF c t cl).getLast? = some (ev t (c.tab (cl.argTypes.toList.getLast?.getD 0)) (.tmp j)) := by
       obtain ⟨zs, z, hz⟩ : ∃ zs z, cl.argTypes.toList = zs ++ [z] := by
         rcases List.eq_nil_or_concat cl.argTypes.toList with h0 | ⟨zs, z, h0⟩
         · rw [hys, h0] at hl; simp at hl
         · exact ⟨zs, z, by rw [h0]; simp⟩
       rw [lF, hys, hz, List.zip_append (by rw [hys, hz] at hl; simpa using hl)]
       simp
     rw [hlx] at hx
     obtain ⟨callee, args, argTypes⟩ := cl
     simp only at hb hj hmt'
     subst hb
     refine ⟨.tmp j, ?_, (mJ _).1 _ (by simp only; exact List.mem_of_getLast? hj), ?_, by simp [mO, ho]⟩
     · simp only [nB, ho, hmt', hj]
     · have hx := Option.some.inj hx
       have : i ∈ (ev t (c.tab (argTypes.toList.getLast?.getD 0)) (.tmp j)).ids := by rw [hx]; simp [AV.ids]
       exact oW t _ this
   · cases hh
 | lookup T x k b => rw [ho] at hh; cases b <;> first | (cases hh; done) | cases tK hh
 | makeMap T r => rw [ho] at hh; cases r <;> first | (cases hh; done) | cases tK hh
 | binOp op xt x y b =>
   rw [ho] at hh
   simp only [opD] at hh
   split at hh
   · cases hh
   · cases tK hh
 | makeInterface T x =>
   rw [ho] at hh
   simp only [opD, aCZ] at hh
   split at hh <;> cases hh
 | _ => rw [ho] at hh; first | (cases hh; done) | cases tK hh

theorem aIY {c : Ctx} {apps : List Nat} {s : Nat} {t : List (Nat × AV)} {h h' : List AObj} {oo : Oper} (hl : mO oo = false) : opD c apps s t h oo.op oo.type = opD c apps s t h' oo.op oo.type := by
 cases ho : oo.op <;> first | rfl | (simp [mO, ho] at hl; done) | skip
 rename_i T r
 cases r <;> rfl

/-! ### The order that binds -/
def aAs (acc : List Nat) (o : Oper) : Nat := o.after.foldl (fun s e => match Region.binds .any e with
     | true => s ||| ((1 <<< e.on) ||| acc.getD e.on 0)
     | false => s) 0

theorem oX (o : Oper) (r : List Oper) (acc : List Nat) : gV (o :: r) acc = gV r (acc ++ [aAs acc o]) := rfl

theorem uM : ∀ (r : List Oper) (acc : List Nat) (k : Nat), k < acc.length → (gV r acc).getD k 0 = acc.getD k 0
 | [], _, _, _ => rfl
 | o :: r, acc, k, h => by
   rw [oX, uM r _ k (by simp; omega)]
   simp only [List.getD_eq_getElem?_getD, List.getElem?_append_left h]

theorem aFy (i j : Nat) : (1 <<< i).testBit j = true → j = i := by
 intro h
 rw [Nat.one_shiftLeft, Nat.testBit_two_pow] at h
 have : i = j := by simpa using h
 exact this.symm

theorem aIZ (acc : List Nat) (o : Oper) (j : Nat) (h : (aAs acc o).testBit j = true) :
   ∃ e ∈ o.after.toList, Region.binds .any e = true ∧ (e.on = j ∨ (acc.getD e.on 0).testBit j = true) := by
 unfold aAs at h
 rw [← Array.foldl_toList] at h
 have key : ∀ (l : List Edge) (s : Nat), (l.foldl (fun s e => match Region.binds .any e with
     | true => s ||| ((1 <<< e.on) ||| acc.getD e.on 0)
     | false => s) s).testBit j = true → s.testBit j = true ∨ ∃ e ∈ l, Region.binds .any e = true ∧ (e.on = j ∨ (acc.getD e.on 0).testBit j = true) := by
   intro l
   induction l with
   | nil => intro s h; exact .inl h
   | cons e l ih =>
     intro s h
     simp only [List.foldl_cons] at h
     rcases ih _ h with h1 | ⟨e', he', h1⟩
     · cases hb : Region.binds .any e with
       | false => rw [hb] at h1; exact .inl h1
       | true =>
         rw [hb] at h1
         simp only [Nat.testBit_or, Bool.or_eq_true] at h1
         rcases h1 with h1 | h1 | h1
         · exact .inl h1
         · exact .inr ⟨e, by simp, hb, .inl (aFy _ _ h1).symm⟩
         · exact .inr ⟨e, by simp, hb, .inr h1⟩
     · exact .inr ⟨e', by simp [he'], h1⟩
 rcases key _ 0 h with h | h
 · simp at h
 · exact h

theorem aEe : ∀ (r : List Oper) (acc : List Nat) (k j : Nat), acc.length ≤ k → ((gV r acc).getD k 0).testBit j = true →
   ∃ o, r[k - acc.length]? = some o ∧ ∃ e ∈ o.after.toList, Region.binds .any e = true ∧ (e.on = j ∨ ((gV r acc).getD e.on 0).testBit j = true)
 | [], acc, k, j, hk, h => by
   simp only [gV, List.getD_eq_getElem?_getD, List.getElem?_eq_none hk, Option.getD_none] at h
   simp at h
 | o :: r, acc, k, j, hk, h => by
   rw [oX] at h
   by_cases e : k = acc.length
   · subst e
     rw [uM r _ _ (by simp)] at h
     have hx : (acc ++ [aAs acc o]).getD acc.length 0 = aAs acc o := by simp [List.getD_eq_getElem?_getD]
     rw [hx] at h
     obtain ⟨e, he, hb, h1⟩ := aIZ acc o j h
     refine ⟨o, by simp, e, he, hb, h1.imp id fun h1 => ?_⟩
     have hlt : e.on < acc.length := by
       rcases Nat.lt_or_ge e.on acc.length with h2 | h2
       · exact h2
       · simp only [List.getD_eq_getElem?_getD, List.getElem?_eq_none h2, Option.getD_none] at h1
         simp at h1
     rw [uM (o :: r) acc _ hlt]; exact h1
   · obtain ⟨o', ho', e', he', hb, h1⟩ := aEe r _ k j (by simp; omega) h
     simp only [List.length_append, List.length_singleton] at ho'
     have : k - acc.length = (k - (acc.length + 1)) + 1 := by omega
     exact ⟨o', by rw [this, List.getElem?_cons_succ]; exact ho', e', he', hb, h1⟩

/-! ### What the checks say -/
structure iX (L : List Oper) (b : Nat → Nat → Bool) : Prop where
 bit : ∀ (k j : Nat), b k j = true → ∃ o, L[k]? = some o ∧ ∃ e ∈ o.after.toList, Region.binds .any e = true ∧ (e.on = j ∨ b e.on j = true)
 edge : ∀ (k : Nat) (o : Oper), L[k]? = some o → ∀ e ∈ o.after.toList, Region.binds .any e = true → e.on < k
 guard : ∀ (k : Nat) (o : Oper), L[k]? = some o → ∀ (j : Nat) (want : Bool), o.guard = some (j, want) → b k j = true ∧ j < k
 noNil : ∀ (k : Nat) (o : Oper), L[k]? = some o → aAc o.op = false
 once : ∀ (i j : Nat) (o o' : Oper) (d : Nat), L[i]? = some o → L[j]? = some o' → o.dst = some d → o'.dst = some d → i = j
 reads : ∀ (i j : Nat) (o o' : Oper) (d : Nat), L[i]? = some o → L[j]? = some o' → o'.dst = some d → d ∈ oQ o → b i j = true ∨ (i ≠ j ∧ b j i = true) ∨ i = j
 behind : ∀ (i j : Nat) (oi oj : Oper), L[i]? = some oi → L[j]? = some oj → i ≠ j → b i j = false → b j i = false → (nB (jE L) oi).isSome = true → mO oj = true →
   ∀ (k : Nat) (ok : Oper) (d : Nat), L[k]? = some ok → ok.dst = some d → (d ∈ oQ oi → b i k = true) ∧ (d ∈ oQ oj → b j k = true)

theorem aAt {L : List Oper} {b : List Nat} {i j : Nat} {oi oj : Oper} (hi : L[i]? = some oi) (hj : L[j]? = some oj) (hne : i ≠ j) (h1 : (b.getD i 0).testBit j = false) (h2 : (b.getD j 0).testBit i = false)
   (hm : (nB (jE L) oi).isSome = true) (hl : mO oj = true) : (i, j) ∈ aAZ L b := by
 have hil : i < L.length := (List.getElem?_eq_some_iff.1 hi).1
 have hjl : j < L.length := (List.getElem?_eq_some_iff.1 hj).1
 unfold aAZ
 rcases Nat.lt_or_gt_of_ne hne with h | h
 · refine List.mem_flatMap.2 ⟨j, List.mem_range.2 hjl, List.mem_flatMap.2 ⟨i, List.mem_range.2 h, ?_⟩⟩
   simp only [h2, hi, hj, hm, hl, Bool.and_self, if_true]
   exact List.mem_append_left _ (by simp)
 · refine List.mem_flatMap.2 ⟨i, List.mem_range.2 hil, List.mem_flatMap.2 ⟨j, List.mem_range.2 h, ?_⟩⟩
   simp only [h1, hi, hj, hm, hl, Bool.and_self, if_true]
   exact List.mem_append_right _ (by simp)

theorem aCg {t : List (Nat × AV)} {A : Prop} : ∀ {l : List (Option Operand × List Operand)}, sepW t l A → A ∧ ∀ p ∈ l, ∃ x, p.1 = some x ∧ sepB (ev t .other x) (p.2.map (ev t .other)) = true
 | [], h => ⟨h, fun p hp => by cases hp⟩
 | (some x, ys) :: r, h => by
   simp only [sepW] at h
   obtain ⟨h1, h2⟩ := aCg h.2
   exact ⟨h1, fun p hp => by
     rcases List.mem_cons.1 hp with rfl | hp
     · exact ⟨x, rfl, h.1⟩
     · exact h2 p hp⟩
 | (none, ys) :: r, h => by simp only [sepW] at h

theorem aLI {v : AV} {vs : List AV} (h : sepB v vs = true) {i : Nat} (h1 : i ∈ v.ids) (h2 : i ∈ AV.idss vs) : False := by
 unfold sepB at h
 rw [List.all_eq_true] at h
 have := h i h1
 rw [List.all_eq_true] at this
 have := this i h2
 simp at this

theorem aEF {L : List Oper} (h : xL L (gV L []) = true) : iX L (fun k j => ((gV L []).getD k 0).testBit j) := by
 unfold xL at h
 simp only [Bool.and_eq_true, List.all_eq_true, List.mem_range] at h
 obtain ⟨h1, h2⟩ := h
 have per : ∀ (k : Nat) (o : Oper), L[k]? = some o → _ := fun k o ho => by
   have := h1 k (List.getElem?_eq_some_iff.1 ho).1
   rw [ho] at this
   simp only [Bool.and_eq_true, List.all_eq_true, List.mem_range] at this
   exact this
 have two : ∀ (i j : Nat) (o o' : Oper) (d : Nat), L[i]? = some o → L[j]? = some o' → o'.dst = some d → (i = j ∨ o.dst ≠ some d) ∧
     (d ∈ oQ o → ((gV L []).getD i 0).testBit j = true ∨ (i ≠ j ∧ ((gV L []).getD j 0).testBit i = true) ∨ i = j) := by
   intro i j o o' d hi hj hd
   have := (per i o hi).2 j (List.getElem?_eq_some_iff.1 hj).1
   rw [hj] at this
   simp only [hd] at this
   simp only [Bool.and_eq_true, Bool.or_eq_true, Bool.not_eq_true', List.contains_eq_mem, decide_eq_false_iff_not] at this
   obtain ⟨p1, p2⟩ := this
   refine ⟨?_, fun hm => ?_⟩
   · rcases p1 with h | h
     · exact .inl (Nat.eq_of_beq_eq_true h)
     · exact .inr (by simpa using h)
   · rcases p2 with ((h | h) | h) | h
     · exact absurd hm h
     · exact .inl h
     · refine .inr (.inl ⟨fun e => ?_, h.2⟩)
       have := h.1; subst e; simp at this
     · exact .inr (.inr (Nat.eq_of_beq_eq_true h.1))
 refine ⟨fun k j hb => ?_, fun k o ho e he hb => ?_, fun k o ho j want hg => ?_, fun k o ho => ?_, fun i j o o' d hi hj h1 h2 => ?_, fun i j o o' d hi hj hd hm => (two i j o o' d hi hj hd).2 hm, fun i j oi oj hi hj hne b1 b2 hm hl k ok d hk hd => ?_⟩
 · have := aEe L [] k j (Nat.zero_le _) hb
   simpa using this
 · have := (per k o ho).1.1.2
   rw [Array.all_eq_true'] at this
   have := this e (by simpa using he)
   rw [hb] at this
   simpa using this
 · have := (per k o ho).1.2
   rw [hg] at this
   simp only [Bool.and_eq_true] at this
   exact ⟨this.1, by simpa using this.2⟩
 · have := (per k o ho).1.1.1
   simpa using this
 · rcases (two i j o o' d hi hj h2).1 with h | h
   · exact h
   · exact absurd h1 h
 · have := h2 _ (aAt hi hj hne b1 b2 hm hl)
   rw [hi, hj] at this
   simp only [List.all_eq_true, List.mem_range] at this
   have := this k (List.getElem?_eq_some_iff.1 hk).1
   rw [hk] at this
   simp only [Option.bind_some, hd, Bool.and_eq_true, Bool.or_eq_true, Bool.not_eq_true', List.contains_eq_mem, decide_eq_false_iff_not] at this
   obtain ⟨p1, p2⟩ := this
   exact ⟨fun h => p1.resolve_left fun x => x h, fun h => p2.resolve_left fun x => x h⟩

end Lam
namespace Lam
open Go

structure Rec where
 ran : Bool
 v : AV
 news : List AObj
 mm : Option (Nat × AObj)

instance : Inhabited Rec := ⟨⟨false, .und, [], none⟩⟩

structure TS (c : Ctx) (A L : List Oper) (t0 : List (Nat × AV)) (h0 : List AObj) (rs : Nat → Rec) (tk : Nat → List (Nat × AV)) (η : Nat → List AObj) : Prop where
 t0 : ∀ i, get (tk 0) i = get t0 i
 ts : ∀ (k : Nat) (o : Oper), L[k]? = some o → ∀ i, get (tk (k + 1)) i = if o.dst = some i then (rs k).v else get (tk k) i
 h0 : η 0 = h0
 hs : ∀ k, k < L.length → η (k + 1) = dY (η k ++ (rs k).news) (rs k).mm
 guard : ∀ (k : Nat) (o : Oper), L[k]? = some o → match o.guard with
   | none => (rs k).ran = true
   | some (j, want) => ∃ g, jX A j = some g ∧ ((∃ b, get (tk k) g = .bool b ∧ (rs k).ran = (b == want)) ∨ (get (tk k) g = .und ∧ (rs k).ran = false))
 ran : ∀ (k : Nat) (o : Oper), L[k]? = some o → (rs k).ran = true → (∃ S, S ∧ opD c (jE A) (η k).length (tk k) (η k) o.op o.type = some (S, (rs k).v, (rs k).news, (rs k).mm)) ∧
   ∀ x ∈ o.op.operands.toList, ∀ id ∈ (ev (tk k) .other x).ids, id < (η k).length
 pass : ∀ (k : Nat) (o : Oper), L[k]? = some o → (rs k).ran = false → (rs k).v = .und ∧ (rs k).news = [] ∧ (rs k).mm = none

def uN {α : Type} (x : α) (f : Nat → α) : Nat → α
 | 0 => x
 | k + 1 => f k

theorem aGt (d : Option Nat) (v : AV) (t : List (Nat × AV)) (i : Nat) : get (putO d v t) i = if d = some i then v else get t i := by
 cases d with
 | none => simp [putO]
 | some j => simp only [putO, kR, Option.some.injEq]

section
variable {c : Ctx} {A L : List Oper} {t0 t1 t2 : List (Nat × AV)} {h0 h1 : List AObj} {rs : Nat → Rec} {tk : Nat → List (Nat × AV)} {η : Nat → List AObj} {o : Oper} {r : Rec}

theorem TS.cons (T : TS c A L t1 h1 rs tk η) (e0 : ∀ i, get t2 i = get t0 i) (e1 : ∀ i, get t1 i = if o.dst = some i then r.v else get t2 i) (e2 : h1 = dY (h0 ++ r.news) r.mm)
   (hg : match o.guard with
     | none => r.ran = true
     | some (j, want) => ∃ g, jX A j = some g ∧ ((∃ b, get t2 g = .bool b ∧ r.ran = (b == want)) ∨ (get t2 g = .und ∧ r.ran = false)))
   (hr : r.ran = true → (∃ S, S ∧ opD c (jE A) h0.length t2 h0 o.op o.type = some (S, r.v, r.news, r.mm)) ∧ ∀ x ∈ o.op.operands.toList, ∀ id ∈ (ev t2 .other x).ids, id < h0.length)
   (hp : r.ran = false → r.v = .und ∧ r.news = [] ∧ r.mm = none) :
   TS c A (o :: L) t0 h0 (uN r rs) (uN t2 tk) (uN h0 η) := by
 refine ⟨e0, fun k q hq i => ?_, rfl, fun k hk => ?_, fun k q hq => ?_, fun k q hq => ?_, fun k q hq => ?_⟩
 · cases k with
   | zero =>
     simp only [List.getElem?_cons_zero, Option.some.injEq] at hq; subst hq
     show get (tk 0) i = _
     rw [T.t0, e1]; rfl
   | succ k => exact T.ts k q (by simpa using hq) i
 · cases k with
   | zero => show η 0 = _; rw [T.h0, e2]; rfl
   | succ k => exact T.hs k (by simpa using hk)
 · cases k with
   | zero => simp only [List.getElem?_cons_zero, Option.some.injEq] at hq; subst hq; exact hg
   | succ k => exact T.guard k q (by simpa using hq)
 · cases k with
   | zero => simp only [List.getElem?_cons_zero, Option.some.injEq] at hq; subst hq; exact hr
   | succ k => exact T.ran k q (by simpa using hq)
 · cases k with
   | zero => simp only [List.getElem?_cons_zero, Option.some.injEq] at hq; subst hq; exact hp
   | succ k => exact T.pass k q (by simpa using hq)
end

section
variable {P : Program} {n : Nat} {ds : DB} {c : Ctx}

theorem aLJ {apps : List Nat} (C : mR P c) {X : Cx} (H : HR X) {t : List (Nat × AV)} {a : Act} (R : SR n ds X t a) {o : Oper} (hd : ∀ i, o.dst = some i → i < n) {S : Prop} {v : AV} {news : List AObj} {mm : Option (Nat × AObj)}
   (e : opD c apps X.h.length t X.h o.op o.type = some (S, v, news, mm)) (hS : S) : ∃ Y a', HR Y ∧ Y.h = dY (X.h ++ news) mm ∧ SR n ds Y (putO o.dst v t) a' := by
 obtain ⟨H', E'⟩ := vQ H news.length
 have R' := R.ext E'
 have hag : gO X.h (X.pad news.length).h (AV.idss (opVs t o.op)) := by
   intro id hid
   obtain ⟨v, hv, hj⟩ := yU hid
   obtain ⟨x, _, rfl⟩ := List.mem_map.1 hv
   have := aGl H.len (R.ev x .other) id hj
   rw [sW, if_pos this]
 rw [aAo hag] at e
 have hto := wH (ro := none) (a := a) H' C (fun x _ d => R'.ev x d) (fun j hj => by rw [sW, if_neg (by omega), if_pos (by omega)]) e hS
 obtain ⟨q, w', Y, rfl, hYh, HY, EY, hv⟩ := hto.get
 refine ⟨Y, a.put o.dst q, HY, ?_, (R'.ext EY).putO hd hv⟩
 rw [hYh, show (X.pad news.length).h = X.h ++ List.replicate news.length .dead from rfl, wI]

theorem uO (C : mR P c) (hdr : c.drawn = true) (hN : ∀ f args h K, ¬ c.envS f args h K) (hYn : ∀ l args h K, ¬ c.envY l args h K) (A : List Oper) {κ : List (Nat × AV) → List AObj → Prop} :
   ∀ (r : List Oper) (kn : List (Nat × Option Bool)) (t : List (Nat × AV)) (X : Cx) (a : Act), (∀ o ∈ r, ∀ i, o.dst = some i → i < n) → (∀ o ∈ r, aAc o.op = false) → Kn t kn → HR X → SR n ds X t a →
     opsW c (jE A) A (fun _ _ _ => False) κ r kn t X.h → ∃ rs tk η, TS c A r t X.h rs tk η ∧ κ (tk r.length) (η r.length)
 | [], kn, t, X, a, _, _, _, H, R, hw => ⟨fun _ => default, fun _ => t, fun _ => X.h, ⟨fun _ => rfl, fun k o h => by simp at h, rfl, fun k h => by simp at h, fun k o h => by simp at h, fun k o h => by simp at h, fun k o h => by simp at h⟩, hw⟩
 | o :: r, kn, t, X, a, hd, hnil, hkn, H, R, hw => by
   have hdo := hd o (by simp)
   have hdr' : ∀ o ∈ r, ∀ i, o.dst = some i → i < n := fun o' h => hd o' (by simp [h])
   have hnil' : ∀ o ∈ r, aAc o.op = false := fun o' h => hnil o' (by simp [h])
   have step : ∀ (t2 : List (Nat × AV)) (kn : List (Nat × Option Bool)), Kn t2 kn → SR n ds X t2 a → (∀ i, get t2 i = get t i) →
       (match o.guard with
         | none => True
         | some (j, want) => ∃ g, jX A j = some g ∧ get t2 g = .bool want) →
       opW c (jE A) t2 X.h o.op o.type (fun v h' => opsW c (jE A) A (fun _ _ _ => False) κ r (unknow o.dst kn) (putO o.dst v t2) h') (fun _ _ => False) →
       ∃ rs tk η, TS c A (o :: r) t X.h rs tk η ∧ κ (tk (o :: r).length) (η (o :: r).length) := by
     intro t2 kn hkn R ht hgd hw
     have hok : OkD (opD c (jE A) X.h.length t2 X.h o.op o.type) X.h (fun v h' => opsW c (jE A) A (fun _ _ _ => False) κ r (unknow o.dst kn) (putO o.dst v t2) h') := by
       rcases aMv hw with h | h
       · exact h
       · cases h with
         | nilEq xt x y b hop hn hs hk =>
           have := hnil o (by simp)
           simp [hop, aAc, hn] at this
         | panic x hop hk =>
           unfold panW at hk; split at hk <;> exact hk.elim
         | call cl f hop hcal hl hk =>
           have h1 := aMQ hdr hN hYn hk
           have hb : Nat.beq cl.args.toList.length cl.argTypes.toList.length = true := by rw [hl]; exact Nat.beq_refl _
           simp only [hop, opD, hcal, hb]
           exact h1
     obtain ⟨S, v, news, mm, e, hS, hk⟩ := hok
     obtain ⟨Y, a', HY, hYh, RY⟩ := aLJ C H R hdo e hS
     rw [← hYh] at hk
     obtain ⟨rs, tk, η, T, hκ⟩ := uO C hdr hN hYn A r _ _ Y a' hdr' hnil' (hkn.unknow o.dst v) HY RY hk
     refine ⟨uN ⟨true, v, news, mm⟩ rs, uN t2 tk, uN X.h η, T.cons ht (fun i => aGt _ _ _ _) hYh ?_ (fun _ => ⟨⟨S, hS, e⟩, fun x hx id hid => aGl H.len (R.ev x .other) id hid⟩) (fun h => by cases h), hκ⟩
     revert hgd
     cases o.guard with
     | none => intro _; rfl
     | some p => intro ⟨g, h1, h2⟩; exact ⟨g, h1, .inl ⟨p.2, h2, by simp⟩⟩
   have pass : ∀ (t2 : List (Nat × AV)) (kn : List (Nat × Option Bool)), Kn t2 kn → SR n ds X t2 a → (∀ i, get t2 i = get t i) →
       (match o.guard with
         | none => False
         | some (j, want) => ∃ g, jX A j = some g ∧ (get t2 g = .bool (!want) ∨ get t2 g = .und)) →
       opsW c (jE A) A (fun _ _ _ => False) κ r (passed o.dst kn) (putO o.dst .und t2) X.h →
       ∃ rs tk η, TS c A (o :: r) t X.h rs tk η ∧ κ (tk (o :: r).length) (η (o :: r).length) := by
     intro t2 kn hkn R ht hgd hw
     obtain ⟨rs, tk, η, T, hκ⟩ := uO C hdr hN hYn A r _ _ X (a.put o.dst undef) hdr' hnil' (hkn.passed o.dst) H (R.putO hdo rfl) hw
     refine ⟨uN ⟨false, .und, [], none⟩ rs, uN t2 tk, uN X.h η, T.cons ht (fun i => aGt _ _ _ _) (by simp [dY]) ?_ (fun h => by cases h) (fun _ => ⟨rfl, rfl, rfl⟩), hκ⟩
     revert hgd
     cases o.guard with
     | none => intro h; exact h.elim
     | some p => intro ⟨g, h1, h2⟩; exact ⟨g, h1, h2.imp (fun h => ⟨!p.2, h, by simp⟩) (fun h => ⟨h, rfl⟩)⟩
   simp only [opsW] at hw
   split at hw
   · rename_i hg
     exact step t kn hkn R (fun _ => rfl) (by rw [hg]; trivial) hw
   · rename_i j want hg
     split at hw
     · exact hw.elim
     · rename_i g hgt
       split at hw
       · rename_i b hb
         have hv := hkn g _ hb
         split at hw
         · rename_i e
           have e : b = want := by simpa using e
           exact step t kn hkn R (fun _ => rfl) (by rw [hg]; exact ⟨g, hgt, by rw [← e]; exact hv⟩) hw
         · rename_i e
           have e : b = !want := by cases b <;> cases want <;> simp_all
           exact pass t kn hkn R (fun _ => rfl) (by rw [hg]; exact ⟨g, hgt, .inl (by rw [← e]; exact hv)⟩) hw
       · rename_i hb
         have hv := hkn g _ hb
         exact pass t kn hkn R (fun _ => rfl) (by rw [hg]; exact ⟨g, hgt, .inr hv⟩) hw
       · unfold aT at hw
         split at hw
         rotate_left
         · exact hw.elim
         rename_i b hb
         have hv := R.v g
         rw [hb] at hv
         have same : ∀ i, get (put g (.bool b) t) i = get t i := by
           intro i
           rw [kR]
           by_cases e : g = i
           · subst e; rw [if_pos rfl, hb]
           · rw [if_neg e]
         by_cases e : b = want
         · subst e
           exact step _ _ (hkn.learn g b) (R.learn hv) same (by rw [hg]; exact ⟨g, hgt, by rw [kR, if_pos rfl]⟩) (hw.1 rfl)
         · have e' : b = !want := by cases b <;> cases want <;> simp_all
           rw [e'] at same hv
           exact pass _ _ (hkn.learn g (!want)) (R.learn hv) same (by rw [hg]; exact ⟨g, hgt, .inl (by rw [kR, if_pos rfl])⟩) (hw.2 e')
end

end Lam
