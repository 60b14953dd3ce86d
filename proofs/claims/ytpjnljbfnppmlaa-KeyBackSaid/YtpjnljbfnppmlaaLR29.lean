/- The text's order of a region that draws: its trace. -/
import Derived.Test.YtpjnljbfnppmlaaLR28
set_option linter.unnecessarySimpa false
set_option linter.unusedSectionVars false
set_option linter.unusedSimpArgs false
set_option linter.unusedVariables false
namespace Lam
open Go

structure Rec where
  ran : Bool
  v : AV
  news : List AObj
  mm : Option (Nat × AObj)

instance : Inhabited Rec := ⟨⟨false, .und, [], none⟩⟩

structure TS (c : Ctx) (A L : List Oper) (t0 : List (Nat × AV)) (h0 : List AObj) (rs : Nat → Rec) (tk : Nat → List (Nat × AV)) (η : Nat → List AObj) : Prop where
  t0 : ∀ i, get (tk 0) i = get t0 i
  ts : ∀ (k : Nat) (o : Oper), L[k]? = some o → ∀ i, get (tk (k + 1)) i = if o.dst = some i then (rs k).v else get (tk k) i
  h0 : η 0 = h0
  hs : ∀ k, k < L.length → η (k + 1) = mutate (η k ++ (rs k).news) (rs k).mm
  guard : ∀ (k : Nat) (o : Oper), L[k]? = some o → match o.guard with
    | none => (rs k).ran = true
    | some (j, want) => ∃ g, guardTmp A j = some g ∧ ((∃ b, get (tk k) g = .bool b ∧ (rs k).ran = (b == want)) ∨ (get (tk k) g = .und ∧ (rs k).ran = false))
  ran : ∀ (k : Nat) (o : Oper), L[k]? = some o → (rs k).ran = true → (∃ S, S ∧ opD c (η k).length (tk k) (η k) o.op o.type = some (S, (rs k).v, (rs k).news, (rs k).mm)) ∧
    ∀ x ∈ o.op.operands.toList, ∀ id ∈ (ev (tk k) .other x).ids, id < (η k).length
  pass : ∀ (k : Nat) (o : Oper), L[k]? = some o → (rs k).ran = false → (rs k).v = .und ∧ (rs k).news = [] ∧ (rs k).mm = none

def consF {α : Type} (x : α) (f : Nat → α) : Nat → α
  | 0 => x
  | k + 1 => f k

theorem get_putO (d : Option Nat) (v : AV) (t : List (Nat × AV)) (i : Nat) : get (putO d v t) i = if d = some i then v else get t i := by
  cases d with
  | none => simp [putO]
  | some j => simp only [putO, get_put, Option.some.injEq]

section
variable {c : Ctx} {A L : List Oper} {t0 t1 t2 : List (Nat × AV)} {h0 h1 : List AObj} {rs : Nat → Rec} {tk : Nat → List (Nat × AV)} {η : Nat → List AObj} {o : Oper} {r : Rec}

theorem TS.cons (T : TS c A L t1 h1 rs tk η) (e0 : ∀ i, get t2 i = get t0 i) (e1 : ∀ i, get t1 i = if o.dst = some i then r.v else get t2 i) (e2 : h1 = mutate (h0 ++ r.news) r.mm)
    (hg : match o.guard with
      | none => r.ran = true
      | some (j, want) => ∃ g, guardTmp A j = some g ∧ ((∃ b, get t2 g = .bool b ∧ r.ran = (b == want)) ∨ (get t2 g = .und ∧ r.ran = false)))
    (hr : r.ran = true → (∃ S, S ∧ opD c h0.length t2 h0 o.op o.type = some (S, r.v, r.news, r.mm)) ∧ ∀ x ∈ o.op.operands.toList, ∀ id ∈ (ev t2 .other x).ids, id < h0.length)
    (hp : r.ran = false → r.v = .und ∧ r.news = [] ∧ r.mm = none) :
    TS c A (o :: L) t0 h0 (consF r rs) (consF t2 tk) (consF h0 η) := by
  refine ⟨e0, fun k q hq i => ?_, rfl, fun k hk => ?_, fun k q hq => ?_, fun k q hq => ?_, fun k q hq => ?_⟩
  · cases k with
    | zero =>
      simp only [List.getElem?_cons_zero, Option.some.injEq] at hq; subst hq
      show get (tk 0) i = _
      rw [T.t0, e1]; rfl
    | succ k => exact T.ts k q (by simpa using hq) i
  · cases k with
    | zero => show η 0 = _; rw [T.h0, e2]; rfl
    | succ k => exact T.hs k (by simpa using hk)
  · cases k with
    | zero => simp only [List.getElem?_cons_zero, Option.some.injEq] at hq; subst hq; exact hg
    | succ k => exact T.guard k q (by simpa using hq)
  · cases k with
    | zero => simp only [List.getElem?_cons_zero, Option.some.injEq] at hq; subst hq; exact hr
    | succ k => exact T.ran k q (by simpa using hq)
  · cases k with
    | zero => simp only [List.getElem?_cons_zero, Option.some.injEq] at hq; subst hq; exact hp
    | succ k => exact T.pass k q (by simpa using hq)
end

section
variable {P : Program} {n : Nat} {ds : Nat} {c : Ctx}

theorem step_ctx (C : CtxOk P c) {X : Cx} (H : HR X) {t : List (Nat × AV)} {a : Act} (R : SR n ds X t a) {o : Oper} (hd : ∀ i, o.dst = some i → i < n) {S : Prop} {v : AV} {news : List AObj} {mm : Option (Nat × AObj)}
    (e : opD c X.h.length t X.h o.op o.type = some (S, v, news, mm)) (hS : S) : ∃ Y a', HR Y ∧ Y.h = mutate (X.h ++ news) mm ∧ SR n ds Y (putO o.dst v t) a' := by
  obtain ⟨H', E'⟩ := pad_ok H news.length
  have R' := R.ext E'
  have hag : Agree X.h (X.pad news.length).h (AV.idss (opVs t o.op)) := by
    intro id hid
    obtain ⟨v, hv, hj⟩ := mem_idss hid
    obtain ⟨x, _, rfl⟩ := List.mem_map.1 hv
    have := VV_ids H.len (R.ev x .other) id hj
    rw [pad_h, if_pos this]
  rw [opD_local hag] at e
  have hto := opD_sound (ro := none) (a := a) H' C (fun x _ d => R'.ev x d) (fun j hj => by rw [pad_h, if_neg (by omega), if_pos (by omega)]) e hS
  obtain ⟨q, w', Y, rfl, hYh, HY, EY, hv⟩ := hto.get
  refine ⟨Y, a.put o.dst q, HY, ?_, (R'.ext EY).putO hd hv⟩
  rw [hYh, show (X.pad news.length).h = X.h ++ List.replicate news.length .dead from rfl, place_pad]

theorem opsW_trace (C : CtxOk P c) (hdr : c.drawn = true) (hN : ∀ f args h K, ¬ c.envS f args h K) (hYn : ∀ l args h K, ¬ c.envY l args h K) (A : List Oper) {κ : List (Nat × AV) → List AObj → Prop} :
    ∀ (r : List Oper) (kn : List (Nat × Option Bool)) (t : List (Nat × AV)) (X : Cx) (a : Act), (∀ o ∈ r, ∀ i, o.dst = some i → i < n) → (∀ o ∈ r, nilEqB o.op = false) → Kn t kn → HR X → SR n ds X t a →
      opsW c A (fun _ _ => False) κ r kn t X.h → ∃ rs tk η, TS c A r t X.h rs tk η ∧ κ (tk r.length) (η r.length)
  | [], kn, t, X, a, _, _, _, H, R, hw => ⟨fun _ => default, fun _ => t, fun _ => X.h, ⟨fun _ => rfl, fun k o h => by simp at h, rfl, fun k h => by simp at h, fun k o h => by simp at h, fun k o h => by simp at h, fun k o h => by simp at h⟩, hw⟩
  | o :: r, kn, t, X, a, hd, hnil, hkn, H, R, hw => by
    have hdo := hd o (by simp)
    have hdr' : ∀ o ∈ r, ∀ i, o.dst = some i → i < n := fun o' h => hd o' (by simp [h])
    have hnil' : ∀ o ∈ r, nilEqB o.op = false := fun o' h => hnil o' (by simp [h])
    have step : ∀ (t2 : List (Nat × AV)) (kn : List (Nat × Option Bool)), Kn t2 kn → SR n ds X t2 a → (∀ i, get t2 i = get t i) →
        (match o.guard with
          | none => True
          | some (j, want) => ∃ g, guardTmp A j = some g ∧ get t2 g = .bool want) →
        opW c t2 X.h o.op o.type (fun v h' => opsW c A (fun _ _ => False) κ r (unknow o.dst kn) (putO o.dst v t2) h') (fun _ _ => False) →
        ∃ rs tk η, TS c A (o :: r) t X.h rs tk η ∧ κ (tk (o :: r).length) (η (o :: r).length) := by
      intro t2 kn hkn R ht hgd hw
      have hok : OkD (opD c X.h.length t2 X.h o.op o.type) X.h (fun v h' => opsW c A (fun _ _ => False) κ r (unknow o.dst kn) (putO o.dst v t2) h') := by
        rcases opW_D hw with h | h
        · exact h
        · cases h with
          | nilEq xt x y b hop hn hs hk =>
            have := hnil o (by simp)
            simp [hop, nilEqB, hn] at this
          | panic x hop hk =>
            unfold panW at hk; split at hk <;> exact hk.elim
          | call cl f hop hcal hl hk =>
            have h1 := callW_D hdr hN hYn hk
            have hb : Nat.beq cl.args.toList.length cl.argTypes.toList.length = true := by rw [hl]; exact Nat.beq_refl _
            simp only [hop, opD, hcal, hb]
            exact h1
      obtain ⟨S, v, news, mm, e, hS, hk⟩ := hok
      obtain ⟨Y, a', HY, hYh, RY⟩ := step_ctx C H R hdo e hS
      rw [← hYh] at hk
      obtain ⟨rs, tk, η, T, hκ⟩ := opsW_trace C hdr hN hYn A r _ _ Y a' hdr' hnil' (hkn.unknow o.dst v) HY RY hk
      refine ⟨consF ⟨true, v, news, mm⟩ rs, consF t2 tk, consF X.h η, T.cons ht (fun i => get_putO _ _ _ _) hYh ?_ (fun _ => ⟨⟨S, hS, e⟩, fun x hx id hid => VV_ids H.len (R.ev x .other) id hid⟩) (fun h => by cases h), hκ⟩
      revert hgd
      cases o.guard with
      | none => intro _; rfl
      | some p => intro ⟨g, h1, h2⟩; exact ⟨g, h1, .inl ⟨p.2, h2, by simp⟩⟩
    have pass : ∀ (t2 : List (Nat × AV)) (kn : List (Nat × Option Bool)), Kn t2 kn → SR n ds X t2 a → (∀ i, get t2 i = get t i) →
        (match o.guard with
          | none => False
          | some (j, want) => ∃ g, guardTmp A j = some g ∧ (get t2 g = .bool (!want) ∨ get t2 g = .und)) →
        opsW c A (fun _ _ => False) κ r (passed o.dst kn) (putO o.dst .und t2) X.h →
        ∃ rs tk η, TS c A (o :: r) t X.h rs tk η ∧ κ (tk (o :: r).length) (η (o :: r).length) := by
      intro t2 kn hkn R ht hgd hw
      obtain ⟨rs, tk, η, T, hκ⟩ := opsW_trace C hdr hN hYn A r _ _ X (a.put o.dst undef) hdr' hnil' (hkn.passed o.dst) H (R.putO hdo rfl) hw
      refine ⟨consF ⟨false, .und, [], none⟩ rs, consF t2 tk, consF X.h η, T.cons ht (fun i => get_putO _ _ _ _) (by simp [mutate]) ?_ (fun h => by cases h) (fun _ => ⟨rfl, rfl, rfl⟩), hκ⟩
      revert hgd
      cases o.guard with
      | none => intro h; exact h.elim
      | some p => intro ⟨g, h1, h2⟩; exact ⟨g, h1, h2.imp (fun h => ⟨!p.2, h, by simp⟩) (fun h => ⟨h, rfl⟩)⟩
    simp only [opsW] at hw
    split at hw
    · rename_i hg
      exact step t kn hkn R (fun _ => rfl) (by rw [hg]; trivial) hw
    · rename_i j want hg
      split at hw
      · exact hw.elim
      · rename_i g hgt
        split at hw
        · rename_i b hb
          have hv := hkn g _ hb
          split at hw
          · rename_i e
            have e : b = want := by simpa using e
            exact step t kn hkn R (fun _ => rfl) (by rw [hg]; exact ⟨g, hgt, by rw [← e]; exact hv⟩) hw
          · rename_i e
            have e : b = !want := by cases b <;> cases want <;> simp_all
            exact pass t kn hkn R (fun _ => rfl) (by rw [hg]; exact ⟨g, hgt, .inl (by rw [← e]; exact hv)⟩) hw
        · rename_i hb
          have hv := hkn g _ hb
          exact pass t kn hkn R (fun _ => rfl) (by rw [hg]; exact ⟨g, hgt, .inr hv⟩) hw
        · unfold guardW at hw
          split at hw
          rotate_left
          · exact hw.elim
          rename_i b hb
          have hv := R.v g
          rw [hb] at hv
          have same : ∀ i, get (put g (.bool b) t) i = get t i := by
            intro i
            rw [get_put]
            by_cases e : g = i
            · subst e; rw [if_pos rfl, hb]
            · rw [if_neg e]
          by_cases e : b = want
          · subst e
            exact step _ _ (hkn.learn g b) (R.learn hv) same (by rw [hg]; exact ⟨g, hgt, by rw [get_put, if_pos rfl]⟩) (hw.1 rfl)
          · have e' : b = !want := by cases b <;> cases want <;> simp_all
            rw [e'] at same hv
            exact pass _ _ (hkn.learn g (!want)) (R.learn hv) same (by rw [hg]; exact ⟨g, hgt, .inl (by rw [get_put, if_pos rfl])⟩) (hw.2 e')
end

end Lam
