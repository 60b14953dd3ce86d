/- What functions of the program come to, each proved from its code. -/
import Derived.Test.YtdnhjeoacanbcaaLV3
namespace Lam
open Go Go.Proofs
set_option linter.unusedVariables false
set_option linter.unnecessarySimpa false
set_option linter.unusedSimpArgs false

theorem ofInt_wrap (v : BitVec 64) : BitVec.ofInt 64 (IntKind.i64.wrap v.toNat) = v := by
  apply BitVec.eq_of_toNat_eq
  rw [BitVec.toNat_ofInt, IntKind.wrap_i64]
  have := v.isLt
  omega

theorem xor_ne {x y : Int} (h1 : -9223372036854775808 ≤ y) (h2 : y < 9223372036854775808) (h0 : y ≠ 0) : xorI .i64 x y ≠ x := by
  intro h
  have h : IntKind.i64.wrap (BitVec.ofInt 64 x ^^^ BitVec.ofInt 64 y).toNat = x := h
  have h3 : BitVec.ofInt 64 x = BitVec.ofInt 64 x ^^^ BitVec.ofInt 64 y := by
    have := congrArg (BitVec.ofInt 64) h
    rw [ofInt_wrap] at this; exact this.symm
  have h4 : BitVec.ofInt 64 y = 0#64 := by
    have : BitVec.ofInt 64 x ^^^ BitVec.ofInt 64 x = BitVec.ofInt 64 x ^^^ (BitVec.ofInt 64 x ^^^ BitVec.ofInt 64 y) := by rw [← h3]
    rw [BitVec.xor_self, ← BitVec.xor_assoc, BitVec.xor_self, BitVec.zero_xor] at this
    exact this.symm
  have h5 := congrArg BitVec.toNat h4
  rw [BitVec.toNat_ofInt] at h5
  simp at h5
  omega

theorem superW_len (b r : Int) : (superW b r).length = 16 := by simp [superW]
theorem super_all (b r : Int) (rest : List Int) : (superW b r ++ rest).length = 16 + rest.length ∧ (superW b r ++ rest).getD 0 0 = 7015 ∧ (superW b r ++ rest).getD 1 0 = b ∧ (superW b r ++ rest).getD 2 0 = sumOf [7015, b] ∧ (superW b r ++ rest).getD 3 0 = r ∧
    ((superW b r ++ rest).drop 4).take 12 = List.replicate 12 0 := by
  refine ⟨by simp [superW]; omega, rfl, rfl, rfl, rfl, ?_⟩
  simp [superW]

theorem readB_super {b r : Int} {rest : List Int} (hm : mayB b r = true) (hb : b = (((16 + rest.length) / 16 : Nat) : Int)) : readB (superW b r ++ rest) = true := by
  obtain ⟨h1, h2, h3, h4, h5, h6⟩ := super_all b r rest
  have := mayB_parts hm
  simp only [readB, headB, h1, h2, h3, h4, h5, h6, hm, ← hb, decide_true, Bool.and_true, Bool.true_and]
  rw [decide_eq_true (by omega)]; rfl

theorem readB_changed {b r x : Int} {rest : List Int} {k : Nat} (hk : k < 16) (h3 : k ≠ 3) (hb : b = (((16 + rest.length) / 16 : Nat) : Int)) (hx : x ≠ (superW b r ++ rest).getD k 0) : readB ((superW b r ++ rest).set k x) = false := by
  obtain ⟨e1, e2, e3, e4, e5, e6⟩ := super_all b r rest
  have hg : ∀ i, ((superW b r ++ rest).set k x).getD i 0 = if k = i then x else (superW b r ++ rest).getD i 0 := by
    intro i
    rw [List.getD_eq_getElem?_getD, List.getD_eq_getElem?_getD, List.getElem?_set]
    by_cases e : k = i
    · subst e; rw [if_pos rfl, if_pos rfl, if_pos (by omega)]; rfl
    · rw [if_neg e, if_neg e]
  cases hr : readB ((superW b r ++ rest).set k x) with
  | false => rfl
  | true =>
    exfalso
    obtain ⟨p1, p2, p3, p4, p5, p6⟩ := readB_parts hr
    rw [List.length_set, e1] at p5
    rw [hg] at p2 p3 p5
    by_cases k0 : k = 0
    · subst k0; rw [if_pos rfl] at p2; rw [e2] at hx; exact hx p2
    by_cases k1 : k = 1
    · subst k1; rw [if_pos rfl] at p5; rw [e3] at hx; rw [← hb] at p5; exact hx p5
    by_cases k2 : k = 2
    · subst k2; rw [if_pos rfl, hg, if_neg (by omega), e3] at p3; rw [e4] at hx; exact hx p3
    have hz : (superW b r ++ rest).getD k 0 = 0 := by
      obtain ⟨m, rfl⟩ : ∃ m, k = 4 + m := ⟨k - 4, by omega⟩
      have : (((superW b r ++ rest).drop 4).take 12).getD m 0 = (superW b r ++ rest).getD (4 + m) 0 := by
        simp only [List.getD_eq_getElem?_getD, List.getElem?_take, List.getElem?_drop]
        rw [if_pos (by omega)]
      rw [← this, e6, List.getD_eq_getElem?_getD, List.getElem?_replicate]; split <;> rfl
    rw [hz] at hx
    apply hx
    apply p6
    obtain ⟨m, rfl⟩ : ∃ m, k = 4 + m := ⟨k - 4, by omega⟩
    apply List.mem_of_getElem? (i := m)
    rw [List.getElem?_take, if_pos (by omega), List.getElem?_drop, List.getElem?_set, if_pos rfl, if_pos (by omega)]

theorem superBack_vc (root : Int) (rest : List Int) (at_ by_ : Int) (wr : (Lit.int .i64 root).wf = true) (wa : (Lit.int .u8 at_).wf = true) (wb : (Lit.int .i64 by_).wf = true) :
    lamplighterlaw08_SuperBack.H (ctx [(15, lamplighterlaw08_awake.C), (16, super_Words.C), (18, super_Read.C)] [] lamplighterlaw08_SuperBack.loops) (.int .i64 root) (.sl false (.ints .i64 rest)) (.int .u8 at_) (.int .i64 by_) [] Told := by
  unfold lamplighterlaw08_SuperBack.H
  simp only [go_sem, Nat.reduceEqDiff, Nat.reduceLT, Nat.reduceAdd, Nat.reduceSub, Nat.reduceLeDiff, List.reduceReplicate, Int.reduceToNat, lamplighterlaw08_awake.C]
  refine ⟨fun hbig => rfl, fun hbig => ?_⟩
  have hb : rest.length ≤ 4080 ∧ 16 ≤ rest.length ∧ by_ ≠ 0 := by simp at hbig; omega
  have hbl : IntKind.i64.wrap (1 + IntKind.i64.wrap ((rest.length : Int).tdiv 16)) = ((1 + rest.length / 16 : Nat) : Int) := by
    rw [tdiv16, w64 (n := ((rest.length / 16 : Nat) : Int)) (by omega) (by omega), w64 (by omega) (by omega)]; omega
  simp only [hbl, go_sem, Nat.reduceEqDiff, Nat.reduceLT, Nat.reduceAdd, Nat.reduceSub, Nat.reduceLeDiff, List.reduceReplicate, Int.reduceToNat, super_Words.C]
  cases hm : mayB ((1 + rest.length / 16 : Nat) : Int) root with
  | false =>
    have : ¬ (1 ≤ root ∧ root < ((1 + rest.length / 16 : Nat) : Int)) := by
      intro h
      have : mayB ((1 + rest.length / 16 : Nat) : Int) root = true := by
        simp only [mayB, Bool.and_eq_true, decide_eq_true_eq]; omega
      rw [hm] at this; cases this
    simp only [Bool.false_eq_true, if_false, go_sem, Nat.reduceEqDiff, Nat.reduceLT, Nat.reduceAdd, Nat.reduceSub, Nat.reduceLeDiff, List.reduceReplicate, Int.reduceToNat]
    refine ⟨by decide, fun _ => ?_, fun h => absurd h (by decide)⟩
    have h2 : (decide (root < 1) || decide (((1 + rest.length / 16 : Nat) : Int) ≤ root)) = true := by
      simp only [Bool.or_eq_true, decide_eq_true_eq]; omega
    rw [h2]; rfl
  | true =>
    simp only [if_true, go_sem, Nat.reduceEqDiff, Nat.reduceLT, Nat.reduceAdd, Nat.reduceSub, Nat.reduceLeDiff, List.reduceReplicate, Int.reduceToNat, super_Read.C]
    have hk : IntKind.i64.wrap (at_.tmod 16) = ((at_.toNat % 16 : Nat) : Int) := by
      have h0 := wf_u8 wa
      obtain ⟨m, rfl⟩ : ∃ m : Nat, at_ = m := ⟨at_.toNat, by omega⟩
      have : ((m : Int).tmod 16) = ((m % 16 : Nat) : Int) := rfl
      rw [this, w64 (by omega) (by omega)]; rfl
    have hb2 : ((1 + rest.length / 16 : Nat) : Int) = (((16 + rest.length) / 16 : Nat) : Int) := by omega
    generalize hbb : ((1 + rest.length / 16 : Nat) : Int) = b at *
    obtain ⟨e1, e2, e3, e4, e5, e6⟩ := super_all b root rest
    have hR := readB_super (rest := rest) hm hb2
    have hV : readV (superW b root ++ rest) = .tup [.int .i64 b, .int .i64 root, .int .i64 0] := by unfold readV; rw [if_pos hR, e3, e5]
    generalize hkk : at_.toNat % 16 = k at *
    have hk16 : k < 16 := by omega
    have hr0 : roomy (superW b root).length := by rw [superW_len]; unfold roomy; decide
    have hr1 : roomy (superW b root ++ rest).length := by rw [e1]; unfold roomy; omega
    have hl : (superW b root ++ rest).length = 16 + rest.length := e1
    simp only [hk, hV, go_sem, Nat.reduceEqDiff, Nat.reduceLT, Nat.reduceAdd, Nat.reduceSub, Nat.reduceLeDiff, List.reduceReplicate, Int.reduceToNat, super_Read.C]
    generalize hx : xorI .i64 ((superW b root ++ rest).getD k 0) by_ = x
    have hxne : x ≠ (superW b root ++ rest).getD k 0 := by
      rw [← hx]; have := wf_64 wb; exact xor_ne this.1 this.2 hb.2.2
    have ht : ∀ y : Int, List.take (superW b root ++ rest).length ((superW b root ++ rest).set k y) = (superW b root ++ rest).set k y := fun y => List.take_of_length_le (by simp)
    have hr2 : roomy ((superW b root ++ rest).set k x).length := by rw [List.length_set]; exact hr1
    have hx3 : k = 3 → xorI .i64 root by_ = x := by rintro rfl; rw [← hx, e5]
    have hg3 : k = 3 → ((superW b root ++ rest).set k x).getD 3 0 = x := by
      rintro rfl; rw [List.getD_eq_getElem?_getD, List.getElem?_set, if_pos rfl, if_pos (by omega)]; rfl
    have hkl : k < (superW b root ++ rest).length := by omega
    have hbnd : (0 : Int) ≤ (k : Int) ∧ (k : Int) < ((superW b root ++ rest).length : Int) := by omega
    rw [ht]
    refine ⟨by decide, hr0, hr1, hr1, by decide, hbnd, hkl, hbnd, hkl, hr2, ?_⟩
    by_cases k3 : k = 3
    · have hx3 := hx3 k3
      have hg3 := hg3 k3
      have hk3 : ((k : Int) = 3) := by omega
      cases hB : readB ((superW b root ++ rest).set k x) with
      | false =>
        have hV2 : readV ((superW b root ++ rest).set k x) = .tup [.int .i64 0, .int .i64 0, .int .i64 80] := by unfold readV; rw [hB]; rfl
        simp only [hV2, hk3, hx3, go_sem, Nat.reduceEqDiff, Nat.reduceLT, Nat.reduceAdd, Nat.reduceSub, Nat.reduceLeDiff, List.reduceReplicate, Int.reduceToNat]
        rfl
      | true =>
        have hV2 : readV ((superW b root ++ rest).set k x) = .tup [.int .i64 (((superW b root ++ rest).set k x).getD 1 0), .int .i64 x, .int .i64 0] := by unfold readV; rw [if_pos hB, hg3]
        simp only [hV2, hk3, hx3, go_sem, Nat.reduceEqDiff, Nat.reduceLT, Nat.reduceAdd, Nat.reduceSub, Nat.reduceLeDiff, List.reduceReplicate, Int.reduceToNat]
        rfl
    · have hk3 : ¬ ((k : Int) = 3) := by omega
      have hB := readB_changed (r := root) (x := x) (rest := rest) hk16 k3 hb2 hxne
      have hV2 : readV ((superW b root ++ rest).set k x) = .tup [.int .i64 0, .int .i64 0, .int .i64 80] := by unfold readV; rw [hB]; rfl
      simp only [hV2, hk3, go_sem, Nat.reduceEqDiff, Nat.reduceLT, Nat.reduceAdd, Nat.reduceSub, Nat.reduceLeDiff, List.reduceReplicate, Int.reduceToNat]
      rfl
abbrev superBack_ctx : Ctx := ctx [(15, lamplighterlaw08_awake.C), (16, super_Words.C), (18, super_Read.C)] [] lamplighterlaw08_SuperBack.loops
theorem SuperBack_ok : Ok Try.prog superBack_ctx := ctx_ok (by simpa using ⟨lamplighterlaw08_awake.spec, super_Words.spec, super_Read.spec⟩) (by simp) _
theorem SuperBack_law (root : Int) (rest : List Int) (at_ by_ : Int) (wr : (Lit.int .i64 root).wf = true) (wa : (Lit.int .u8 at_).wf = true) (wb : (Lit.int .i64 by_).wf = true) :
    funW superBack_ctx Try.f4 [.int .i64 root, .sl false (.ints .i64 rest), .int .u8 at_, .int .i64 by_] [] Told := by
  rw [superBack_ctx, lamplighterlaw08_SuperBack.eq]
  exact superBack_vc root rest at_ by_ wr wa wb
end Lam
