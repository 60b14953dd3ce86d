/- Calls by contract; what an operation is told to come to, it comes to. -/
import Derived.Test.YtpjnljbfnppmlaaLR20
set_option linter.unusedVariables false
set_option linter.unnecessarySimpa false
set_option linter.unusedSectionVars false
set_option linter.unusedSimpArgs false
namespace Lam
open Go

/-- objects that a call may hand on -/
def AObj.newOk : AObj → Bool
  | .row k _ _ => match k with
    | .fro => false
    | _ => true
  | .box v => v.closed
  | _ => true

/-- the end of a call, by a contract -/
def Ends (X0 : Cx) (fresh : Bool) (v : AV) (news : List AObj) (e : Ending) (w' : World) : Prop :=
  ∃ c, e = .returned c ∧ ∃ Y : Cx, Y.w = w' ∧ HR Y ∧ Ext X0 Y ∧
    match fresh with
    | true => Y.h = news ∧ (∀ o ∈ news, o.newOk = true) ∧ v.shOk = true ∧ HR ⟨fun _ => False, Y.μ, Y.h, Y.w⟩ ∧ VV ⟨fun _ => False, Y.μ, Y.h, Y.w⟩ v c
    | false => v.closed = true ∧ VV Y v c

/-- contracts of functions that only compute -/
structure FOk (P : Program) (envF : FuncId → List AV → Option (Bool × D)) : Prop where
  enter : ∀ f vs r, envF f vs = some r → ∀ (args : Array Value) (w : World), (callFunc f args).run P w = .ok (.enter f args) w
  spec : ∀ f vs b S v news, envF f vs = some (b, some (S, v, news)) → S → ∀ (X0 : Cx) (cs : Array Value), X0.h = [] → X0.μ = [] → HR X0 → VVs X0 vs cs.toList →
    Calls P f cs X0.w (Ends X0 b v news)

section
variable {ro : Option Nat} {P : Program} {X : Cx}

theorem hr0 {S : Nat → Prop} {w : World} (h : ∀ b, S b → b < w.heap.size) : HR ⟨S, [], [], w⟩ :=
  ⟨rfl, fun i o h => by simp at h, fun i j b h => by simp at h, fun i b h => by simp at h, h⟩

theorem args0 (H : HR X) {S : Nat → Prop} (hS : ∀ b, X.S b → S b) {vs us : List AV} {cs : List Value} (hr : ∀ id ∈ AV.rowss vs, ∀ b, X.μ[id]? = some (some b) → S b)
    (hv : AV.vals X.h vs = some us) (hc : AV.closeds us = true) (h : VVs X vs cs) : VVs ⟨S, [], [], X.w⟩ us cs :=
  valVs H (Y := ⟨S, [], [], X.w⟩) hS (fun _ _ => rfl) (fun id hid b hb => ⟨hr id hid b hb, rfl⟩) hv hc h

theorem OR.congr {X Y : Cx} {b : Option Nat} {o : AObj} (E : Ext X Y) (hb : ∀ k, b = some k → Y.w.heap[k]? = X.w.heap[k]?) (h : OR X b o) : OR Y b o := h.ext E hb

/-- old blocks stay -/
theorem old_kept {S : Nat → Prop} {w : World} {Y : Cx} (E : Ext ⟨S, [], [], w⟩ Y) {b : Nat} (hb : b < w.heap.size) : Y.w.heap[b]? = w.heap[b]? := E.keep b hb fun i => by simp

/-- a call that hands on values: the caller's context behind it -/
theorem after_val (H : HR X) {Y : Cx} (E : Ext ⟨X.S, [], [], X.w⟩ Y) (HY : HR Y) : HR ⟨Y.S, X.μ, X.h, Y.w⟩ ∧ Ext X ⟨Y.S, X.μ, X.h, Y.w⟩ := by
  have hE : Ext X ⟨Y.S, X.μ, X.h, Y.w⟩ := by
    refine ⟨E.S, E.cells, fun b hb => ?_, fun i b h => .inl h, fun b hb _ => old_kept E hb, E.grow, fun i k ver l hl => ?_, fun i b h1 h2 => ⟨h2, h1⟩, E.env⟩
    · rcases E.new b hb with h | ⟨i, h⟩ | h
      · exact .inl h
      · simp at h
      · exact .inr (.inr h)
    · refine ⟨k, ver, l, hl, Nat.le_refl _, fun _ => ⟨rfl, rfl, fun b hb => ⟨hb, ?_⟩⟩, fun h => ⟨h, rfl⟩⟩
      have : Y.w.heap[b]? = X.w.heap[b]? := old_kept E (H.live _ _ hb).1
      simp only [blockSize, this]; exact Nat.le_refl _
  refine ⟨⟨H.len, fun i o ho => ?_, H.apart, fun i b hb => ?_, HY.old⟩, hE⟩
  · obtain ⟨b, hb, hor⟩ := H.obj i o ho
    exact ⟨b, hb, hor.ext hE fun k hk => by subst hk; exact old_kept E (H.live _ _ hb).1⟩
  · have hl := H.live i b hb
    refine ⟨Nat.lt_of_lt_of_le hl.1 E.grow, fun hs => ?_⟩
    rcases E.new b hs with h | ⟨i, h⟩ | h
    · exact hl.2 h
    · simp at h
    · exact absurd hl.1 (Nat.not_lt.2 h)

/-- a call that hands on no slices -/
theorem after_plain (H : HR X) {S : Nat → Prop} {Y : Cx} (E : Ext ⟨S, [], [], X.w⟩ Y) : HR ⟨X.S, X.μ, X.h, Y.w⟩ ∧ Ext X ⟨X.S, X.μ, X.h, Y.w⟩ := by
  have hE : Ext X ⟨X.S, X.μ, X.h, Y.w⟩ := by
    refine ⟨fun _ h => h, fun b hb => old_kept E (H.old b hb), fun b hb => .inl hb, fun i b h => .inl h, fun b hb _ => old_kept E hb, E.grow, fun i k ver l hl => ?_, fun i b h1 h2 => ⟨h2, h1⟩, E.env⟩
    refine ⟨k, ver, l, hl, Nat.le_refl _, fun _ => ⟨rfl, rfl, fun b hb => ⟨hb, ?_⟩⟩, fun h => ⟨h, rfl⟩⟩
    have : Y.w.heap[b]? = X.w.heap[b]? := old_kept E (H.live _ _ hb).1
    simp only [blockSize, this]; exact Nat.le_refl _
  refine ⟨⟨H.len, fun i o ho => ?_, H.apart, fun i b hb => ?_, fun b hb => Nat.lt_of_lt_of_le (H.old b hb) E.grow⟩, hE⟩
  · obtain ⟨b, hb, hor⟩ := H.obj i o ho
    exact ⟨b, hb, hor.ext hE fun k hk => by subst hk; exact old_kept E (H.live _ _ hb).1⟩
  · have hl := H.live i b hb
    exact ⟨Nat.lt_of_lt_of_le hl.1 E.grow, hl.2⟩

theorem dead_none (H : HR X) {i : Nat} (hd : X.h[i]? = some .dead) : X.μ[i]? = some none := by
  obtain ⟨b, hb, hor⟩ := H.obj i _ hd
  rw [hb, show b = none from hor]

/-- a call that hands on a new part of the heap: the caller's context behind it -/
theorem after_new (H : HR X) {S : Nat → Prop} {Y : Cx} {s : Nat} (E : Ext ⟨S, [], [], X.w⟩ Y) (HY : HR ⟨fun _ => False, Y.μ, Y.h, Y.w⟩) (hd : ∀ j, j < Y.h.length → X.h[s + j]? = some .dead) (hn : ∀ o ∈ Y.h, o.newOk = true) :
    HR ⟨X.S, place X.μ s Y.μ, place X.h s Y.h, Y.w⟩ ∧ Ext X ⟨X.S, place X.μ s Y.μ, place X.h s Y.h, Y.w⟩ ∧
      Sh ⟨fun _ => False, Y.μ, Y.h, Y.w⟩ ⟨X.S, place X.μ s Y.μ, place X.h s Y.h, Y.w⟩ s := by
  have hroom : Y.h ≠ [] → s + Y.h.length ≤ X.h.length := fun hne => by
    have hp : 0 < Y.h.length := List.length_pos_iff.2 hne
    have := (List.getElem?_eq_some_iff.1 (hd (Y.h.length - 1) (by omega))).1
    omega
  have gh := place_get Y.h X.h s hroom
  have gm := place_get Y.μ X.μ s (fun hne => by
    have hp : 0 < Y.μ.length := List.length_pos_iff.2 hne
    have hl : Y.μ.length = Y.h.length := HY.len
    rw [hl] at hp ⊢; rw [H.len]
    exact hroom (List.length_pos_iff.1 hp))
  rw [show Y.μ.length = Y.h.length from HY.len] at gm
  have kept : ∀ b, b < X.w.heap.size → Y.w.heap[b]? = X.w.heap[b]? := fun b hb => old_kept E hb
  have fresh : ∀ j b, Y.μ[j]? = some (some b) → X.w.heap.size ≤ b := fun j b hb => by
    rcases E.muinv j b hb with h | h
    · simp at h
    · exact h
  have outr : ∀ i, (s ≤ i ∧ i < s + Y.h.length) → X.h[i]? = some .dead := fun i hi => by
    have := hd (i - s) (by omega)
    rwa [show s + (i - s) = i by omega] at this
  have hE : Ext X ⟨X.S, place X.μ s Y.μ, place X.h s Y.h, Y.w⟩ := by
    refine ⟨fun _ h => h, fun b hb => kept b (H.old b hb), fun b hb => .inl hb, fun i b hb => ?_, fun b hb _ => kept b hb, E.grow, fun i k ver l hl => ?_, fun i b h1 h2 => ?_, E.env⟩
    · simp only [gm] at hb
      split at hb
      · exact .inr (fresh _ _ hb)
      · exact .inl hb
    · have hno : ¬ (s ≤ i ∧ i < s + Y.h.length) := fun hi => by rw [outr i hi] at hl; cases hl
      refine ⟨k, ver, l, ?_, Nat.le_refl _, fun _ => ⟨rfl, rfl, fun b hb => ⟨?_, ?_⟩⟩, fun h => ⟨h, rfl⟩⟩
      · simp only [gh, if_neg hno, hl]
      · simp only [gm, if_neg hno, hb]
      · have := kept b (H.live _ _ hb).1
        simp only [blockSize, this]; exact Nat.le_refl _
    · have hno : ¬ (s ≤ i ∧ i < s + Y.h.length) := fun hi => by rw [dead_none H (outr i hi)] at h2; cases h2
      exact ⟨by simp only [gm, if_neg hno, h2], by simp only [gh, if_neg hno, h1]⟩
  refine ⟨⟨?_, fun i o ho => ?_, fun i j b h1 h2 => ?_, fun i b hb => ?_, fun b hb => Nat.lt_of_lt_of_le (H.old b hb) E.grow⟩, hE, ⟨fun _ h => h, rfl, HY.len, fun i o ho => ?_, fun i b hb => ?_⟩⟩
  · simp only [place_length, H.len]
  · simp only [gh] at ho
    simp only [gm]
    split at ho
    · rename_i hi
      rw [if_pos hi]
      obtain ⟨b, hb, hor⟩ := HY.obj _ o ho
      refine ⟨b, hb, ?_⟩
      have hok := hn o (List.mem_of_getElem? ho)
      cases o with
      | box v =>
        obtain ⟨b', cs, elem, rfl, q1, q2⟩ := hor
        exact ⟨b', cs, elem, rfl, q1, closedVC (X := ⟨fun _ => False, Y.μ, Y.h, Y.w⟩) (fun b hb => hb.elim) (fun b hb => hb.elim) hok q2⟩
      | row k ver l =>
        rcases hor with hor | ⟨b', cs, elem, rfl, q1, q2, q3⟩
        · exact .inl hor
        · exact .inr ⟨b', cs, elem, rfl, q1, q2, fun hk => by subst hk; cases hok⟩
      | map m => exact hor
      | lp st pd r => exact hor
      | dead => exact hor
    · rename_i hi
      rw [if_neg hi]
      obtain ⟨b, hb, hor⟩ := H.obj i o ho
      exact ⟨b, hb, hor.ext hE fun k hk => by subst hk; exact kept k (H.live _ _ hb).1⟩
  · simp only [gm] at h1 h2
    split at h1 <;> split at h2
    · have := HY.apart _ _ _ h1 h2; omega
    · have := fresh _ _ h1; have := (H.live _ _ h2).1; omega
    · have := fresh _ _ h2; have := (H.live _ _ h1).1; omega
    · exact H.apart _ _ _ h1 h2
  · simp only [gm] at hb
    split at hb
    · have h1 := fresh _ _ hb
      refine ⟨(HY.live _ _ hb).1, fun hs => ?_⟩
      have := H.old b hs; omega
    · rename_i hi
      have hl := H.live _ _ hb
      refine ⟨Nat.lt_of_lt_of_le hl.1 E.grow, fun hs => ?_⟩
      obtain ⟨ver, l, h3⟩ := hl.2 hs
      exact ⟨ver, l, by simp only [gh, if_neg hi, h3]⟩
  · have : i < Y.h.length := (List.getElem?_eq_some_iff.1 ho).1
    simp only [gh]
    rw [if_pos ⟨by omega, by omega⟩, Nat.add_sub_cancel_left]; exact ho
  · have : i < Y.h.length := by rw [← show Y.μ.length = Y.h.length from HY.len]; exact (List.getElem?_eq_some_iff.1 hb).1
    simp only [gm]
    rw [if_pos ⟨by omega, by omega⟩, Nat.add_sub_cancel_left]; exact hb
end

end Lam
