/- An operation in the text's order. -/
import Derived.Test.YtpjnljbfnppmlaaLR22
import Derived.TacticsIn
set_option linter.unusedVariables false
set_option linter.unnecessarySimpa false
set_option linter.unusedSectionVars false
set_option linter.unusedSimpArgs false
namespace Lam
open Go

/-! ### The objects that a value names are there -/
theorem rowO_lt {h : List AObj} {i : Nat} {r : RK × Nat × Lst} (e : rowO (h[i]?) = some r) : i < h.length := by
  rcases Nat.lt_or_ge i h.length with h1 | h1
  · exact h1
  · rw [List.getElem?_eq_none h1] at e; cases e

section
variable {X : Cx}

/-- an object is there -/
def Here (X : Cx) (id : Nat) : Prop := (∃ r, rowO (X.h[id]?) = some r) ∨ ∃ b, X.μ[id]? = some (some b)

theorem Here.lt {id : Nat} (hl : X.μ.length = X.h.length) (h : Here X id) : id < X.h.length := by
  rcases h with ⟨r, h⟩ | ⟨b, h⟩
  · exact rowO_lt h
  · rw [← hl]; exact (List.getElem?_eq_some_iff.1 h).1

theorem Here.alive {id : Nat} (H : HR X) (h : Here X id) : X.h[id]? ≠ some .dead := by
  intro e
  rcases h with ⟨r, h⟩ | ⟨b, h⟩
  · rw [e] at h; cases h
  · rw [dead_none H e] at h; cases h

theorem VB_here {v : AV} {c : Value} (h : VB X v c) (hf : v.scalar = true) (hn : ∀ f a b, v ≠ .fn f a b) (hi : ∀ t u, v ≠ .iface t u) : ∀ id, id ∈ v.ids → Here X id := by
  intro id hid
  cases v with
  | sref x i ver off len =>
    simp only [AV.ids, List.mem_singleton] at hid; subst hid
    obtain ⟨_, _, _, _, _, _, _, hr, _⟩ := h
    exact .inl ⟨_, hr⟩
  | ptr i p =>
    simp only [AV.ids, List.mem_singleton] at hid; subst hid
    simp only [VB] at h
    unfold PtV at h
    split at h
    · obtain ⟨_, _, _, hr, _⟩ := h; exact .inl ⟨_, hr⟩
    · obtain ⟨_, hm, _⟩ := h; exact .inr ⟨_, hm⟩
  | map i =>
    simp only [AV.ids, List.mem_singleton] at hid; subst hid
    obtain ⟨_, hm, _⟩ := h; exact .inr ⟨_, hm⟩
  | fn f a b => exact (hn _ _ _ rfl).elim
  | iface t u => exact (hi _ _ rfl).elim
  | agg _ => cases hf
  | arr _ => cases hf
  | tup _ => cases hf
  | _ => simp [AV.ids] at hid

mutual
theorem VV_here : ∀ {v : AV} {c : Value}, VV X v c → ∀ id, id ∈ v.ids → Here X id
  | .agg vs, c, h, id, hid => by
    simp only [VV] at h; obtain ⟨cs, rfl, h⟩ := h
    exact VCs_here h id (by simpa [AV.ids] using hid)
  | .tup vs, c, h, id, hid => by
    simp only [VV] at h; obtain ⟨cs, rfl, h⟩ := h
    exact VVs_here h id (by simpa [AV.ids] using hid)
  | .fn f a b, c, h, id, hid => by
    simp only [VV] at h; obtain ⟨x, d, rfl, h1, h2⟩ := h
    simp only [AV.ids, List.mem_append] at hid
    exact hid.elim (VVs_here h1 id) (VVs_here h2 id)
  | .iface t v, c, h, id, hid => by
    simp only [VV] at h; obtain ⟨u, rfl, h⟩ := h
    exact VV_here h id (by simpa [AV.ids] using hid)
  | .arr l, c, h, id, hid => by simp [AV.ids] at hid
  | .sref x i v o n, c, h, id, hid => VB_here (v := .sref x i v o n) h rfl (by intros; simp) (by intros; simp) id hid
  | .ptr i p, c, h, id, hid => VB_here (v := .ptr i p) h rfl (by intros; simp) (by intros; simp) id hid
  | .map i, c, h, id, hid => VB_here (v := .map i) h rfl (by intros; simp) (by intros; simp) id hid
  | .top, _, _, id, hid | .und, _, _, id, hid | .int _ _, _, _, id, hid | .bool _, _, _, id, hid | .str _, _, _, id, hid | .sl _ _, _, _, id, hid
  | .ep _ _ _, _, _, id, hid | .nilp, _, _, id, hid | .nilfn, _, _, id, hid | .niliface, _, _, id, hid => by simp [AV.ids] at hid
theorem VVs_here : ∀ {vs : List AV} {cs : List Value}, VVs X vs cs → ∀ id, id ∈ AV.idss vs → Here X id
  | [], _, _, id, hid => by simp [AV.idss] at hid
  | v :: r, _, h, id, hid => by
    simp only [VVs] at h; obtain ⟨c, d, rfl, h1, h2⟩ := h
    simp only [AV.idss, List.mem_append] at hid
    exact hid.elim (VV_here h1 id) (VVs_here h2 id)
theorem VC_here : ∀ {v : AV} {cs : List Value}, VC X v cs → ∀ id, id ∈ v.ids → Here X id
  | .agg vs, c, h, id, hid => by
    simp only [VC] at h
    exact VCs_here h id (by simpa [AV.ids] using hid)
  | .tup vs, c, h, id, hid => by simp only [VC] at h
  | .fn f a b, c, h, id, hid => by
    simp only [VC] at h; obtain ⟨x, d, rfl, h1, h2⟩ := h
    simp only [AV.ids, List.mem_append] at hid
    exact hid.elim (VVs_here h1 id) (VVs_here h2 id)
  | .iface t v, c, h, id, hid => by
    simp only [VC] at h; obtain ⟨u, rfl, h⟩ := h
    exact VV_here h id (by simpa [AV.ids] using hid)
  | .arr l, c, h, id, hid => by simp [AV.ids] at hid
  | .sref x i v o n, c, h, id, hid => by simp only [VC] at h; obtain ⟨c, rfl, h⟩ := h; exact VB_here (v := .sref x i v o n) h rfl (by intros; simp) (by intros; simp) id hid
  | .ptr i p, c, h, id, hid => by simp only [VC] at h; obtain ⟨c, rfl, h⟩ := h; exact VB_here (v := .ptr i p) h rfl (by intros; simp) (by intros; simp) id hid
  | .map i, c, h, id, hid => by simp only [VC] at h; obtain ⟨c, rfl, h⟩ := h; exact VB_here (v := .map i) h rfl (by intros; simp) (by intros; simp) id hid
  | .top, _, _, id, hid | .und, _, _, id, hid | .int _ _, _, _, id, hid | .bool _, _, _, id, hid | .str _, _, _, id, hid | .sl _ _, _, _, id, hid
  | .ep _ _ _, _, _, id, hid | .nilp, _, _, id, hid | .nilfn, _, _, id, hid | .niliface, _, _, id, hid => by simp [AV.ids] at hid
theorem VCs_here : ∀ {vs : List AV} {cs : List Value}, VCs X vs cs → ∀ id, id ∈ AV.idss vs → Here X id
  | [], _, _, id, hid => by simp [AV.idss] at hid
  | v :: r, _, h, id, hid => by
    simp only [VCs] at h; obtain ⟨c, d, rfl, h1, h2⟩ := h
    simp only [AV.idss, List.mem_append] at hid
    exact hid.elim (VC_here h1 id) (VCs_here h2 id)
end

theorem VV_ids (hl : X.μ.length = X.h.length) {v : AV} {c : Value} (h : VV X v c) (id : Nat) (hi : id ∈ v.ids) : id < X.h.length := (VV_here h id hi).lt hl

mutual
theorem VV_rows : ∀ {v : AV} {c : Value}, VV X v c → ∀ id, id ∈ v.rows → ∃ k ver l, X.h[id]? = some (.row k ver l)
  | .agg vs, c, h, id, hid => by
    simp only [VV] at h; obtain ⟨cs, rfl, h⟩ := h
    exact VCs_rows h id (by simpa [AV.rows] using hid)
  | .tup vs, c, h, id, hid => by
    simp only [VV] at h; obtain ⟨cs, rfl, h⟩ := h
    exact VVs_rows h id (by simpa [AV.rows] using hid)
  | .sref x i v o n, c, h, id, hid => by
    simp only [AV.rows, List.mem_singleton] at hid; subst hid
    obtain ⟨_, _, _, _, k, ver, l, hr, _⟩ := h
    exact ⟨k, ver, l, rowO_some hr⟩
  | .fn _ _ _, _, _, id, hid | .iface _ _, _, _, id, hid | .arr _, _, _, id, hid | .ptr _ _, _, _, id, hid | .map _, _, _, id, hid
  | .top, _, _, id, hid | .und, _, _, id, hid | .int _ _, _, _, id, hid | .bool _, _, _, id, hid | .str _, _, _, id, hid | .sl _ _, _, _, id, hid
  | .ep _ _ _, _, _, id, hid | .nilp, _, _, id, hid | .nilfn, _, _, id, hid | .niliface, _, _, id, hid => by simp [AV.rows] at hid
theorem VVs_rows : ∀ {vs : List AV} {cs : List Value}, VVs X vs cs → ∀ id, id ∈ AV.rowss vs → ∃ k ver l, X.h[id]? = some (.row k ver l)
  | [], _, _, id, hid => by simp [AV.rowss] at hid
  | v :: r, _, h, id, hid => by
    simp only [VVs] at h; obtain ⟨c, d, rfl, h1, h2⟩ := h
    simp only [AV.rowss, List.mem_append] at hid
    exact hid.elim (VV_rows h1 id) (VVs_rows h2 id)
theorem VC_rows : ∀ {v : AV} {cs : List Value}, VC X v cs → ∀ id, id ∈ v.rows → ∃ k ver l, X.h[id]? = some (.row k ver l)
  | .agg vs, c, h, id, hid => by
    simp only [VC] at h
    exact VCs_rows h id (by simpa [AV.rows] using hid)
  | .tup vs, c, h, id, hid => by simp only [VC] at h
  | .sref x i v o n, c, h, id, hid => by
    simp only [AV.rows, List.mem_singleton] at hid; subst hid
    simp only [VC] at h; obtain ⟨c, rfl, h⟩ := h
    obtain ⟨_, _, _, _, k, ver, l, hr, _⟩ := h
    exact ⟨k, ver, l, rowO_some hr⟩
  | .fn _ _ _, _, _, id, hid | .iface _ _, _, _, id, hid | .arr _, _, _, id, hid | .ptr _ _, _, _, id, hid | .map _, _, _, id, hid
  | .top, _, _, id, hid | .und, _, _, id, hid | .int _ _, _, _, id, hid | .bool _, _, _, id, hid | .str _, _, _, id, hid | .sl _ _, _, _, id, hid
  | .ep _ _ _, _, _, id, hid | .nilp, _, _, id, hid | .nilfn, _, _, id, hid | .niliface, _, _, id, hid => by simp [AV.rows] at hid
theorem VCs_rows : ∀ {vs : List AV} {cs : List Value}, VCs X vs cs → ∀ id, id ∈ AV.rowss vs → ∃ k ver l, X.h[id]? = some (.row k ver l)
  | [], _, _, id, hid => by simp [AV.rowss] at hid
  | v :: r, _, h, id, hid => by
    simp only [VCs] at h; obtain ⟨c, d, rfl, h1, h2⟩ := h
    simp only [AV.rowss, List.mem_append] at hid
    exact hid.elim (VC_rows h1 id) (VCs_rows h2 id)
end

/-! ### Room for new objects -/
def Cx.pad (X : Cx) (k : Nat) : Cx := ⟨X.S, X.μ ++ List.replicate k none, X.h ++ List.replicate k .dead, X.w⟩

theorem pad_mu {k i : Nat} (hl : X.μ.length = X.h.length) : (X.pad k).μ[i]? = if i < X.h.length then X.μ[i]? else if i < X.h.length + k then some none else none := by
  simp only [Cx.pad, List.getElem?_append, hl]
  split
  · rfl
  · split
    · rw [List.getElem?_replicate, if_pos (by omega)]
    · rw [List.getElem?_replicate, if_neg (by omega)]

theorem pad_h {k i : Nat} : (X.pad k).h[i]? = if i < X.h.length then X.h[i]? else if i < X.h.length + k then some .dead else none := by
  simp only [Cx.pad, List.getElem?_append]
  split
  · rfl
  · split
    · rw [List.getElem?_replicate, if_pos (by omega)]
    · rw [List.getElem?_replicate, if_neg (by omega)]

theorem pad_ok (H : HR X) (k : Nat) : HR (X.pad k) ∧ Ext X (X.pad k) := by
  have hm : ∀ i, (X.pad k).μ[i]? = _ := fun i => pad_mu (k := k) H.len
  have hh : ∀ i, (X.pad k).h[i]? = _ := fun i => pad_h (X := X) (k := k)
  have lt : ∀ {i : Nat} {b : Option Nat}, X.μ[i]? = some b → i < X.h.length := fun e => by rw [← H.len]; exact (List.getElem?_eq_some_iff.1 e).1
  have inv : ∀ {i b : Nat}, (X.pad k).μ[i]? = some (some b) → X.μ[i]? = some (some b) := fun {i b} e => by
    rw [hm] at e
    split at e
    · exact e
    · split at e <;> cases e
  have E : Ext X (X.pad k) := by
    refine ⟨fun _ h => h, fun _ _ => rfl, fun b hb => .inl hb, fun i b hb => .inl (inv hb), fun _ _ _ => rfl, Nat.le_refl _, fun i r ver l hl => ?_, fun i b h1 h2 => ?_, SameEnv.refl _⟩
    · have hi : i < X.h.length := rowO_lt hl
      refine ⟨r, ver, l, by rw [hh, if_pos hi]; exact hl, Nat.le_refl _, fun _ => ⟨rfl, rfl, fun b hb => ⟨by rw [hm, if_pos hi]; exact hb, Nat.le_refl _⟩⟩, fun h => ⟨h, rfl⟩⟩
    · have hi := lt h2
      exact ⟨by rw [hm, if_pos hi]; exact h2, by rw [hh, if_pos hi]; exact h1⟩
  refine ⟨⟨by simp [Cx.pad, H.len], fun i o ho => ?_, fun i j b h1 h2 => H.apart _ _ _ (inv h1) (inv h2), fun i b hb => ?_, H.old⟩, E⟩
  · rw [hh] at ho; rw [hm]
    split at ho
    · rename_i hi
      rw [if_pos hi]
      obtain ⟨b, hb, hor⟩ := H.obj i o ho
      exact ⟨b, hb, hor.ext E fun _ _ => rfl⟩
    · rename_i hi
      rw [if_neg hi]
      split at ho
      · rename_i h2
        cases ho
        exact ⟨none, by rw [if_pos h2], rfl⟩
      · cases ho
  · have hb := inv hb
    have := H.live i b hb
    refine ⟨this.1, fun hs => ?_⟩
    obtain ⟨ver, l, h1⟩ := this.2 hs
    exact ⟨ver, l, by rw [hh, if_pos (lt hb)]; exact h1⟩

theorem place_pad {h : List AObj} : ∀ (news : List AObj), place (h ++ List.replicate news.length .dead) h.length news = h ++ news := by
  intro news
  apply List.ext_getElem?
  intro i
  rw [place_get _ _ _ (by intro _; simp)]
  simp only [List.getElem?_append]
  by_cases h1 : i < h.length
  · rw [if_neg (by omega), if_pos h1]
    simp [h1]
  · by_cases h2 : i < h.length + news.length
    · rw [if_pos (by omega), if_neg h1]
    · rw [if_neg (by omega), if_neg h1, if_neg h1, List.getElem?_eq_none (by simp; omega), List.getElem?_eq_none (by omega)]

end

end Lam
