/- What a loop's head forgets. -/
import Derived.Test.YtpjnljbfnppmlaaLR25
set_option linter.unusedVariables false
set_option linter.unnecessarySimpa false
set_option linter.unusedSectionVars false
set_option linter.unusedSimpArgs false
namespace Lam
open Go

/-- the objects from n on are given away by value -/
def Cx.drop (X : Cx) (n : Nat) : Cx := ⟨fun b => X.S b ∨ ∃ i, n ≤ i ∧ X.μ[i]? = some (some b), X.μ.take n, normH n X.h, X.w⟩

theorem rowO_normO (n : Nat) (h : List AObj) (o : Option AObj) : rowO (o.map (normO n h)) = rowO o := by
  cases o with
  | none => rfl
  | some o => cases o <;> rfl

section
variable {X : Cx} {n : Nat}

theorem drop_h (i : Nat) : (X.drop n).h[i]? = if i < n then (X.h[i]?).map (normO n X.h) else none := by
  simp only [Cx.drop, normH, List.getElem?_map, List.getElem?_take]
  split <;> rfl

theorem drop_mu (i : Nat) : (X.drop n).μ[i]? = if i < n then X.μ[i]? else none := by
  simp only [Cx.drop, List.getElem?_take]

theorem drop_row {i : Nat} (hi : i < n) : rowO ((X.drop n).h[i]?) = rowO (X.h[i]?) := by
  rw [drop_h, if_pos hi, rowO_normO]

theorem drop_S {b : Nat} (h : X.S b) : (X.drop n).S b := .inl h

theorem sref_norm (H : HR X) {x : Bool} {id ver off len : Nat} {c : Value} (h : SrV X x id ver off len c) :
    VB (X.drop n) (normR n (X.h[id]?) id ver off len) c ∧ ((normR n (X.h[id]?) id ver off len).scalar = true ∧ (∀ f a b, normR n (X.h[id]?) id ver off len ≠ .fn f a b) ∧ (∀ t u, normR n (X.h[id]?) id ver off len ≠ .iface t u)) := by
  have h0 := h
  obtain ⟨a, m, cap, rfl, k, ver', l, hl, hv, g⟩ := h
  have hr := rowO_some hl
  by_cases e : ver = ver'
  · by_cases hi : id < n
    · simp only [normR, hr, if_pos e, if_pos hi]
      refine ⟨⟨a, m, cap, rfl, k, ver', l, by rw [drop_row hi]; exact hl, hv, fun e => ?_⟩, rfl, by intros; simp, by intros; simp⟩
      obtain ⟨g1, g2, g3, g4, g5, g6⟩ := g e
      refine ⟨g1, g2, g3, fun h => (by cases h), g5, fun hn => ?_⟩
      obtain ⟨b, q1, q2, q3⟩ := g6 hn
      exact ⟨b, by rw [drop_mu, if_pos hi]; exact q1, q2, q3⟩
    · have hlo : listO (X.h[id]?) ver off len = some (l.cut off len) := by rw [hr]; simp [listO, e]
      have := sref_val (Y := X.drop n) H h0 hlo fun b hb => ⟨.inr ⟨id, by omega, hb⟩, rfl⟩
      simp only [normR, hr, if_pos e, if_neg hi]
      exact ⟨this, rfl, by intros; simp, by intros; simp⟩
  · simp only [normR, hr, if_neg e]
    exact ⟨trivial, rfl, by intros; simp, by intros; simp⟩

theorem VB_scalar_VV {X : Cx} {v : AV} {c : Value} (h : VB X v c) (hs : v.scalar = true ∧ (∀ f a b, v ≠ .fn f a b) ∧ (∀ t u, v ≠ .iface t u)) : VV X v c := by
  obtain ⟨h1, h2, h3⟩ := hs
  cases v <;> first | exact h | (cases h1; done) | exact (h2 _ _ _ rfl).elim | exact (h3 _ _ rfl).elim

theorem VB_scalar_VC {X : Cx} {v : AV} {c : Value} (h : VB X v c) (hc : c.oneCell' = true) (hs : v.scalar = true ∧ (∀ f a b, v ≠ .fn f a b) ∧ (∀ t u, v ≠ .iface t u)) (hu : v ≠ .und) : VC X v [c] := by
  obtain ⟨h1, h2, h3⟩ := hs
  cases v <;> first | (simp only [VC]; exact ⟨c, rfl, h⟩) | (simp only [VC]; exact ⟨c, rfl, hc⟩) | (cases h1; done) | exact (h2 _ _ _ rfl).elim | exact (h3 _ _ rfl).elim | exact (hu rfl).elim

theorem normR_und (n : Nat) (o : Option AObj) (id ver off len : Nat) : normR n o id ver off len ≠ .und := by
  unfold normR; split
  · split
    · split <;> simp
    · simp
  · simp

theorem ptr_norm {id : Nat} {p : List PS} {c : Value} (hi : id < n) (h : PtV X id p c) : PtV (X.drop n) id p c := by
  have fin : ∀ p, (∃ b, X.μ[id]? = some (some b) ∧ c = .pointer (some ⟨b, offs p, none⟩) ∧ ∀ k ver l, rowO (X.h[id]?) = some (k, ver, l) → k ≠ .own) →
      ∃ b, (X.drop n).μ[id]? = some (some b) ∧ c = .pointer (some ⟨b, offs p, none⟩) ∧ ∀ k ver l, rowO ((X.drop n).h[id]?) = some (k, ver, l) → k ≠ .own := by
    rintro p ⟨b, q1, q2, q3⟩
    exact ⟨b, by rw [drop_mu, if_pos hi]; exact q1, q2, by rw [drop_row hi]; exact q3⟩
  cases p with
  | nil => exact fin _ h
  | cons q r => cases q with
    | f _ _ => exact fin _ h
    | i _ _ _ =>
      obtain ⟨k, ver', l, hl, hv, ho, g⟩ := h
      exact ⟨k, ver', l, by rw [drop_row hi]; exact hl, hv, ho, fun e => by obtain ⟨b, q1, q2⟩ := g e; exact ⟨b, by rw [drop_mu, if_pos hi]; exact q1, q2⟩⟩

mutual
theorem normV (H : HR X) : ∀ {v : AV} {c : Value}, VV X v c → VV (X.drop n) (v.norm n X.h) c
  | .agg vs, c, h => by
    simp only [AV.norm, VV] at h ⊢
    obtain ⟨cs, rfl, h⟩ := h
    exact ⟨cs, rfl, normC H h⟩
  | .tup vs, c, h => by
    simp only [AV.norm, VV] at h ⊢
    obtain ⟨cs, rfl, h⟩ := h
    exact ⟨cs, rfl, normVs H h⟩
  | .fn f first cap, c, h => by
    simp only [AV.norm, VV] at h ⊢
    obtain ⟨a, d, rfl, h1, h2⟩ := h
    exact ⟨a, d, rfl, normVs H h1, normVs H h2⟩
  | .iface t v, c, h => by
    simp only [AV.norm, VV] at h ⊢
    obtain ⟨u, rfl, h⟩ := h
    exact ⟨u, rfl, normV H h⟩
  | .sref x id ver off len, c, h => by
    simp only [AV.norm]
    have := sref_norm (n := n) H (x := x) (id := id) (ver := ver) (off := off) (len := len) h
    exact VB_scalar_VV this.1 this.2
  | .sl x l, c, h => by
    obtain ⟨a, cap, rfl, h1, h2, h3, h4⟩ := h
    exact ⟨a, cap, rfl, h1, fun h => (by cases h), h3, fun hn => by obtain ⟨ad, q1, q2, q3, q4⟩ := h4 hn; exact ⟨ad, q1, q2, drop_S q3, q4⟩⟩
  | .ptr id p, c, h => by
    simp only [AV.norm]
    split
    · rename_i hi; exact ptr_norm hi h
    · trivial
  | .map id, c, h => by
    simp only [AV.norm]
    split
    · rename_i hi
      obtain ⟨b, q1, q2, q3⟩ := h
      exact ⟨b, by rw [drop_mu, if_pos hi]; exact q1, q2, by rw [drop_row hi]; exact q3⟩
    · trivial
  | .ep l i fs, c, h => by
    obtain ⟨b, o, q1, q2, q3, q4⟩ := h
    exact ⟨b, o, q1, q2, drop_S q3, q4⟩
  | .arr l, _, h => h
  | .top, _, _ => trivial
  | .und, _, h => h
  | .int _ _, _, h => h
  | .bool _, _, h => h
  | .str _, _, h => h
  | .nilp, _, h => h
  | .nilfn, _, h => h
  | .niliface, _, h => h
theorem normVs (H : HR X) : ∀ {vs : List AV} {cs : List Value}, VVs X vs cs → VVs (X.drop n) (AV.norms n X.h vs) cs
  | [], _, h => by simpa only [VVs, AV.norms] using h
  | v :: r, _, h => by
    simp only [AV.norms, VVs] at h ⊢
    obtain ⟨c, d, rfl, g1, g2⟩ := h
    exact ⟨c, d, rfl, normV H g1, normVs H g2⟩
theorem normVC (H : HR X) : ∀ {v : AV} {cs : List Value}, VC X v cs → VC (X.drop n) (v.norm n X.h) cs
  | .agg vs, c, h => by
    simp only [AV.norm, VC] at h ⊢
    exact normC H h
  | .tup vs, c, h => by simp only [VC] at h
  | .fn f first cap, c, h => by
    simp only [AV.norm, VC] at h ⊢
    obtain ⟨a, d, rfl, h1, h2⟩ := h
    exact ⟨a, d, rfl, normVs H h1, normVs H h2⟩
  | .iface t v, c, h => by
    simp only [AV.norm, VC] at h ⊢
    obtain ⟨u, rfl, h⟩ := h
    exact ⟨u, rfl, normV H h⟩
  | .sref x id ver off len, cs, h => by
    simp only [VC] at h
    obtain ⟨c, rfl, h⟩ := h
    simp only [AV.norm]
    have := sref_norm (n := n) H (x := x) (id := id) (ver := ver) (off := off) (len := len) h
    exact VB_scalar_VC this.1 (VB_ones (v := .sref x id ver off len) h rfl) this.2 (normR_und _ _ _ _ _ _)
  | .sl x l, cs, h => by
    simp only [VC] at h ⊢
    obtain ⟨c, rfl, h⟩ := h
    simp only [AV.norm, VC]
    exact ⟨c, rfl, normV H (v := .sl x l) h⟩
  | .ptr id p, cs, h => by
    simp only [VC] at h
    obtain ⟨c, rfl, h⟩ := h
    simp only [AV.norm]
    split
    · rename_i hi; simp only [VC]; exact ⟨c, rfl, ptr_norm hi h⟩
    · simp only [VC]; exact ⟨c, rfl, VB_ones (v := .ptr id p) h rfl⟩
  | .map id, cs, h => by
    simp only [VC] at h
    obtain ⟨c, rfl, h⟩ := h
    simp only [AV.norm]
    split
    · rename_i hi
      simp only [VC]
      obtain ⟨b, q1, q2, q3⟩ := h
      exact ⟨c, rfl, b, by rw [drop_mu, if_pos hi]; exact q1, q2, by rw [drop_row hi]; exact q3⟩
    · simp only [VC]; exact ⟨c, rfl, VB_ones (v := .map id) h rfl⟩
  | .ep l i fs, cs, h => by
    simp only [AV.norm, VC] at h ⊢
    obtain ⟨c, rfl, b, o, q1, q2, q3, q4⟩ := h
    exact ⟨c, rfl, b, o, q1, q2, drop_S q3, q4⟩
  | .arr l, _, h => by simpa only [AV.norm, VC] using h
  | .top, _, h => by simpa only [AV.norm, VC] using h
  | .und, _, h => by simp only [VC] at h
  | .int _ _, _, h => by simp only [AV.norm, VC] at h ⊢; obtain ⟨c, rfl, h⟩ := h; exact ⟨c, rfl, h⟩
  | .bool _, _, h => by simp only [AV.norm, VC] at h ⊢; obtain ⟨c, rfl, h⟩ := h; exact ⟨c, rfl, h⟩
  | .str _, _, h => by simp only [AV.norm, VC] at h ⊢; obtain ⟨c, rfl, h⟩ := h; exact ⟨c, rfl, h⟩
  | .nilp, _, h => by simp only [AV.norm, VC] at h ⊢; obtain ⟨c, rfl, h⟩ := h; exact ⟨c, rfl, h⟩
  | .nilfn, _, h => by simp only [AV.norm, VC] at h ⊢; obtain ⟨c, rfl, h⟩ := h; exact ⟨c, rfl, h⟩
  | .niliface, _, h => by simp only [AV.norm, VC] at h ⊢; obtain ⟨c, rfl, h⟩ := h; exact ⟨c, rfl, h⟩
theorem normC (H : HR X) : ∀ {vs : List AV} {cs : List Value}, VCs X vs cs → VCs (X.drop n) (AV.norms n X.h vs) cs
  | [], _, h => by simpa only [VCs, AV.norms] using h
  | v :: r, _, h => by
    simp only [AV.norms, VCs] at h ⊢
    obtain ⟨c, d, rfl, g1, g2⟩ := h
    exact ⟨c, d, rfl, normVC H g1, normC H g2⟩
end

theorem drop_hr (H : HR X) : HR (X.drop n) := by
  refine ⟨by simp [Cx.drop, normH, H.len], fun i o ho => ?_, fun i j b h1 h2 => ?_, fun i b hb => ?_, fun b hb => ?_⟩
  · rw [drop_h] at ho; rw [drop_mu]
    split at ho
    · rename_i hi
      rw [if_pos hi]
      cases hx : X.h[i]? with
      | none => rw [hx] at ho; cases ho
      | some o' =>
        rw [hx] at ho; cases ho
        obtain ⟨b, hb, hor⟩ := H.obj i o' hx
        refine ⟨b, hb, ?_⟩
        cases o' with
        | box v =>
          obtain ⟨b', cs, elem, rfl, q1, q2⟩ := hor
          exact ⟨b', cs, elem, rfl, q1, normVC H q2⟩
        | row k ver l =>
          rcases hor with hor | ⟨b', cs, elem, rfl, q1, q2, q3⟩
          · exact .inl hor
          · exact .inr ⟨b', cs, elem, rfl, q1, q2, fun hk => drop_S (q3 hk)⟩
        | map m => exact hor
        | lp st pd r => exact hor
        | dead => exact hor
    · cases ho
  · rw [drop_mu] at h1 h2
    split at h1
    · split at h2
      · exact H.apart _ _ _ h1 h2
      · cases h2
    · cases h1
  · rw [drop_mu] at hb
    split at hb
    · rename_i hi
      refine ⟨(H.live _ _ hb).1, fun hs => ?_⟩
      rcases hs with hs | ⟨j, hj, hs⟩
      · obtain ⟨ver, l, e⟩ := (H.live _ _ hb).2 hs
        exact ⟨ver, l, by rw [drop_h, if_pos hi, e]; rfl⟩
      · have := H.apart _ _ _ hb hs; omega
    · cases hb
  · rcases hb with hb | ⟨j, _, hb⟩
    · exact H.old b hb
    · exact (H.live _ _ hb).1

theorem DefOk.drop {base : Nat} : ∀ {ds : List Deferred}, DefOk base X ds → DefOk base (X.drop n) ds
  | [], _ => trivial
  | d :: ds, ⟨⟨r, e, h1, h2, h3, h4, h5⟩, h⟩ => by
    refine ⟨⟨r, e, h1, h2, fun i hi => ?_, fun hs => ?_, h5⟩, DefOk.drop h⟩
    · rw [drop_mu] at hi
      split at hi
      · exact h3 i hi
      · cases hi
    · rcases hs with hs | ⟨i, _, hs⟩
      · exact h4 hs
      · exact h3 i hs

theorem drop_ext {X0 : Cx} (H0 : HR X0) (E : Ext X0 X) (hl : X0.h.length ≤ n) : Ext X0 (X.drop n) := by
  refine ⟨fun b h => drop_S (E.S b h), E.cells, fun b hb => ?_, fun i b hb => ?_, E.keep, E.grow, fun i k ver l hr => ?_, fun i b h1 h2 => ?_, E.env⟩
  · rcases hb with hb | ⟨j, _, hb⟩
    · exact E.new b hb
    · rcases E.muinv j b hb with h | h
      · exact .inr (.inl ⟨j, h⟩)
      · exact .inr (.inr h)
  · rw [drop_mu] at hb
    split at hb
    · exact E.muinv i b hb
    · cases hb
  · have hi : i < n := Nat.lt_of_lt_of_le (rowO_lt hr) hl
    obtain ⟨k', ver', l', h1, h2, h3, h4⟩ := E.row i k ver l hr
    refine ⟨k', ver', l', by rw [drop_row hi]; exact h1, h2, fun e => ?_, h4⟩
    obtain ⟨g1, g2, g3⟩ := h3 e
    refine ⟨g1, g2, fun b hb => ?_⟩
    obtain ⟨q1, q2⟩ := g3 b hb
    exact ⟨by rw [drop_mu, if_pos hi]; exact q1, q2⟩
  · have hi : i < n := by
      have : i < X0.μ.length := (List.getElem?_eq_some_iff.1 h2).1
      rw [H0.len] at this; omega
    obtain ⟨q1, q2⟩ := E.oth i b h1 h2
    exact ⟨by rw [drop_mu, if_pos hi]; exact q1, by rw [drop_row hi]; exact q2⟩
end

end Lam
