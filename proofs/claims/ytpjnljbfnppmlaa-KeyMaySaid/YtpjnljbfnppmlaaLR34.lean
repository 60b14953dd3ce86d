/- Contracts, one by one, and what makes them. -/
import Derived.Test.YtpjnljbfnppmlaaLR33
set_option linter.unnecessarySimpa false
set_option linter.unusedSectionVars false
set_option linter.unusedSimpArgs false
set_option linter.unusedVariables false
namespace Lam
open Go

/-- a law's outcome -/
def Told (ao : AOut) (h : List AObj) : Prop := ao = .ret (.bool true)

/-- where ways come together -/
def joinW {α : Type} (A : α → Prop) (k : α) : Prop := A k

abbrev Contract := List AV → Option (Bool × D)

/-- a function's contract by value -/
structure FSpec (P : Program) (f : FuncId) (C : Contract) : Prop where
  enter : ∀ (args : Array Value) (w : World), (callFunc f args).run P w = .ok (.enter f args) w
  spec : ∀ vs b S v news, C vs = some (b, some (S, v, news)) → S → ∀ (X0 : Cx) (cs : Array Value), X0.h = [] → X0.μ = [] → HR X0 → VVs X0 vs cs.toList →
    Calls P f cs X0.w (Ends X0 b v news)

/-- a function that is looked into -/
structure SSpec (P : Program) (f : FuncId) (C : Con) : Prop where
  spec : ∀ args h K, C args h K → ∀ (X : Cx) (cs : Array Value), HR X → X.h = h → VVs X args cs.toList →
    (∀ w, (callFunc f cs).run P w = .ok (.enter f cs) w) ∧
      Calls P f cs X.w fun e w' => ∃ Y ao, Y.w = w' ∧ HR Y ∧ Ext X Y ∧ OutR Y ao e ∧ K ao Y.h

/-- a function that is ranged over, and looked into -/
structure ISpec (P : Program) (f : FuncId) (C : Con → Con) : Prop where
  spec : ∀ Yc l cap h K, C Yc (.fn (.yield l) [] [] :: cap) h K → ∀ (X : Cx) (cs : Array Value), YOk P X l Yc → HR X → X.h = h → VVs X (.fn (.yield l) [] [] :: cap) cs.toList →
    (∀ w, (callFunc f cs).run P w = .ok (.enter f cs) w) ∧
      Calls P f cs X.w fun e w' => ∃ Y ao, Y.w = w' ∧ HR Y ∧ Ext X Y ∧ OutR Y ao e ∧ K ao Y.h

def lookI : List (FuncId × (Con → Con)) → FuncId → Con → Con
  | [], _ => fun _ _ _ _ => False
  | (g, C) :: r, f => match Nat.beq f g with
    | true => C
    | false => lookI r f

def lookF : List (FuncId × Contract) → FuncId → Contract
  | [], _ => fun _ => none
  | (g, C) :: r, f => match Nat.beq f g with
    | true => C
    | false => lookF r f

def lookS : List (FuncId × Con) → FuncId → Con
  | [], _ => fun _ _ _ => False
  | (g, C) :: r, f => match Nat.beq f g with
    | true => C
    | false => lookS r f

theorem fok_look {P : Program} : ∀ {l : List (FuncId × Contract)}, (∀ p ∈ l, FSpec P p.1 p.2) → FOk P (lookF l)
  | [], _ => ⟨fun f vs r h => by simp [lookF] at h, fun f vs b S v news h => by simp [lookF] at h⟩
  | (g, C) :: r, h => by
    have ih := fok_look (P := P) (l := r) fun p hp => h p (by simp [hp])
    have h0 := h (g, C) (by simp)
    refine ⟨fun f vs q e => ?_, fun f vs b S v news e => ?_⟩
    · cases hb : Nat.beq f g with
      | true =>
        simp only [lookF, hb] at e
        obtain rfl := Nat.eq_of_beq_eq_true hb
        exact h0.enter
      | false =>
        simp only [lookF, hb] at e
        exact ih.enter f vs q e
    · cases hb : Nat.beq f g with
      | true =>
        simp only [lookF, hb] at e
        obtain rfl := Nat.eq_of_beq_eq_true hb
        exact h0.spec vs b S v news e
      | false =>
        simp only [lookF, hb] at e
        exact ih.spec f vs b S v news e

theorem sok_look {P : Program} : ∀ {l : List (FuncId × Con)}, (∀ p ∈ l, SSpec P p.1 p.2) → SOk P (lookS l)
  | [], _ => ⟨fun f args h K e => by simp [lookS] at e⟩
  | (g, C) :: r, h => by
    have ih := sok_look (P := P) (l := r) fun p hp => h p (by simp [hp])
    have h0 := h (g, C) (by simp)
    refine ⟨fun f args hh K e => ?_⟩
    cases hb : Nat.beq f g with
    | true =>
      simp only [lookS, hb] at e
      obtain rfl := Nat.eq_of_beq_eq_true hb
      exact h0.spec args hh K e
    | false =>
      simp only [lookS, hb] at e
      exact ih.spec f args hh K e

theorem isok_look {P : Program} : ∀ {l : List (FuncId × (Con → Con))}, (∀ p ∈ l, ISpec P p.1 p.2) → ISOk P (lookI l)
  | [], _ => ⟨fun f Yc l cap h K e => by simp [lookI] at e⟩
  | (g, C) :: r, h => by
    have ih := isok_look (P := P) (l := r) fun p hp => h p (by simp [hp])
    have h0 := h (g, C) (by simp)
    refine ⟨fun f Yc l cap hh K e => ?_⟩
    cases hb : Nat.beq f g with
    | true =>
      simp only [lookI, hb] at e
      obtain rfl := Nat.eq_of_beq_eq_true hb
      exact h0.spec Yc l cap hh K e
    | false =>
      simp only [lookI, hb] at e
      exact ih.spec f Yc l cap hh K e

theorem is_none {P : Program} : ISOk P fun _ _ _ _ _ => False := ⟨fun _ _ _ _ _ _ h => h.elim⟩

/-- the end of a function, by value, or as a new row -/
def Post (b : Bool) (v : AV) (news : List AObj) (ao : AOut) (h : List AObj) : Prop :=
  ∃ v', ao = .ret v' ∧ match b with
    | false => v'.val h = some v ∧ v.closed = true
    | true => ∃ x x' id ver len k l, v' = .sref x id ver 0 len ∧ h[id]? = some (.row k ver l) ∧ k ≠ .fro ∧ v = .sref x' 0 0 0 len ∧ (x' = true → x = true) ∧ news = [.row .own 0 l]

theorem post_val {v v' : AV} {h : List AObj} (e : v'.val h = some v) (hc : v.closed = true) : Post false v [] (.ret v') h := ⟨v', rfl, e, hc⟩

section
variable {P : Program}

theorem Post.ends {X0 Y : Cx} (HX : HR X0) (Hh : X0.h = []) (H0 : X0.μ = []) (HY : HR Y) (E : Ext X0 Y) {b : Bool} {v : AV} {news : List AObj} {ao : AOut} {e : Ending} (ho : OutR Y ao e) (hp : Post b v news ao Y.h) : Ends X0 b v news e Y.w := by
  obtain ⟨v', rfl, hp⟩ := hp
  obtain ⟨c, rfl, hv⟩ := ho
  refine ⟨c, rfl, ?_⟩
  cases b with
  | false =>
    obtain ⟨he, hc⟩ := hp
    obtain ⟨H1, E1⟩ := fro_ok HY (ids := v'.rows) (fun id hid => VV_rows hv id hid)
    exact ⟨Y.fro v'.rows, rfl, H1, E.trans E1, hc, valV HY (Y := Y.fro v'.rows) (fun b h => .inl h) (fun _ _ => rfl) (fun id hid b hb => ⟨.inr ⟨id, hid, hb⟩, rfl⟩) he hc hv⟩
  | true =>
    obtain ⟨x, x', id, ver, len, k, l, rfl, hh, hk, rfl, hx, rfl⟩ := hp
    obtain ⟨b, hb, hor⟩ := HY.obj _ _ hh
    have hbS : ∀ q, b = some q → ¬ Y.S q := by
      rintro q rfl hs
      obtain ⟨ver', l', e⟩ := (HY.live _ _ hb).2 hs
      rw [hh] at e; cases e; exact hk rfl
    have hOR : ∀ Z : Cx, Z.w = Y.w → OR Z b (.row .own 0 l) := by
      intro Z hZ
      rcases hor with ⟨h1, h2, _⟩ | ⟨b', cs, elem, h1, h2, h3, _⟩
      · exact .inl ⟨h1, h2, by simp⟩
      · exact .inr ⟨b', cs, elem, h1, by rw [hZ]; exact h2, h3, fun h => by cases h⟩
    have hHR : ∀ S : Nat → Prop, (∀ q, S q → X0.S q) → HR ⟨S, [b], [.row .own 0 l], Y.w⟩ := by
      intro S hS
      refine ⟨rfl, fun i o ho => ?_, fun i j q h1 h2 => ?_, fun i q hq => ?_, fun q hq => Nat.lt_of_lt_of_le (HX.old q (hS q hq)) E.grow⟩
      · cases i with
        | zero => simp only [List.getElem?_cons_zero, Option.some.injEq] at ho; subst ho; exact ⟨b, rfl, hOR _ rfl⟩
        | succ i => simp at ho
      · cases i <;> cases j <;> simp at h1 h2 ⊢
      · cases i with
        | zero =>
          simp only [List.getElem?_cons_zero, Option.some.injEq] at hq
          exact ⟨(HY.live id q (by rw [hb, hq])).1, fun hs => (hbS q hq (E.S q (hS q hs))).elim⟩
        | succ i => simp at hq
    have EZ : Ext X0 ⟨X0.S, [b], [.row .own 0 l], Y.w⟩ := by
      refine ⟨fun _ h => h, E.cells, fun b h => .inl h, fun i q hq => ?_, E.keep, E.grow, fun i k ver l hl => ?_, fun i q h1 h2 => ?_, E.env⟩
      · cases i with
        | zero =>
          simp only [List.getElem?_cons_zero, Option.some.injEq] at hq
          rcases E.muinv id q (by rw [hb, hq]) with h | h
          · rw [H0] at h; simp at h
          · exact .inr h
        | succ i => simp at hq
      · rw [Hh] at hl; cases hl
      · rw [H0] at h2; simp at h2
    refine ⟨⟨X0.S, [b], [.row .own 0 l], Y.w⟩, rfl, hHR _ (fun _ h => h), EZ, rfl, fun o ho => ?_, rfl, hHR _ (fun _ h => h.elim), ?_⟩
    · simp only [List.mem_singleton] at ho; subst ho; rfl
    · obtain ⟨a, n, cap, rfl, k', ver', l', hl', hle, g⟩ := hv
      rw [hh] at hl'; cases hl'
      obtain ⟨rfl, g2, g3, g4, g5, g6⟩ := g rfl
      refine ⟨a, n, cap, rfl, .own, 0, l, rfl, Nat.le_refl _, fun _ => ⟨rfl, g2, g3, fun h => g4 (hx h), g5, fun hn => ?_⟩⟩
      obtain ⟨q, q1, q2, q3⟩ := g6 hn
      refine ⟨q, ?_, q2, q3⟩
      rw [hb] at q1
      simpa using q1

theorem enter_of {f : FuncId} {fn : Func} (hf : P.funcs[f]? = some fn) (hn : (fn.name == "runtime.NumGoroutine") = false) (hb : fn.body.isNone = false) (args : Array Value) (w : World) :
    (callFunc f args).run P w = .ok (.enter f args) w := by
  simp only [callFunc, Sem.run_bind, run_program, Result.andThen_ok, hf, hn, hb, Bool.false_eq_true, if_false, Sem.run_pure]

theorem FSpec.of {c : Ctx} (O : Ok P c) {f : FuncId} {fn : Func} {C : Contract} (hf : P.funcs[f]? = some fn) (hn : (fn.name == "runtime.NumGoroutine") = false) (hb : fn.body.isNone = false)
    (h : ∀ vs b S v news, C vs = some (b, some (S, v, news)) → S → funW c fn vs [] (Post b v news)) : FSpec P f C := by
  refine ⟨enter_of hf hn hb, fun vs b S v news e hS X0 cs Hh Hm HX hv => ?_⟩
  have hw := h vs b S v news e hS
  rw [← Hh] at hw
  refine (fun_sound O hf HX hv hw).mono fun en w' he => ?_
  obtain ⟨Y, ao, rfl, HY, EY, ho, hp⟩ := he
  exact hp.ends HX Hh Hm HY EY ho

theorem SSpec.of {c : Ctx} (O : Ok P c) {f : FuncId} {fn : Func} {C : Con} (hf : P.funcs[f]? = some fn) (hn : (fn.name == "runtime.NumGoroutine") = false) (hb : fn.body.isNone = false)
    (h : ∀ args h K, C args h K → funW c fn args h K) : SSpec P f C := by
  refine ⟨fun args hh K hC X cs H hXh hv => ⟨fun w => enter_of hf hn hb cs w, ?_⟩⟩
  have hw := h args hh K hC
  rw [← hXh] at hw
  exact fun_sound O hf H hv hw

theorem ISpec.of {c : Ctx} (O : OkI P c) {f : FuncId} {fn : Func} {C : Con → Con} (hf : P.funcs[f]? = some fn) (hn : (fn.name == "runtime.NumGoroutine") = false) (hb : fn.body.isNone = false)
    (h : ∀ Yc l cap hh K, C Yc (.fn (.yield l) [] [] :: cap) hh K → funW (c.withY l Yc) fn (.fn (.yield l) [] [] :: cap) hh K) : ISpec P f C := by
  refine ⟨fun Yc l cap hh K hC X cs hY H hXh hv => ⟨fun w => enter_of hf hn hb cs w, ?_⟩⟩
  have hw := h Yc l cap hh K hC
  rw [← hXh] at hw
  have O' : OkI P (c.withY l Yc) := ⟨⟨O.ok.tab, O.ok.sh, O.ok.fok⟩, O.s, O.plain, O.mixed, O.i⟩
  refine fun_soundY O' hf (fun l' args h K hq => ?_) H hv hw
  obtain ⟨e, hq⟩ := hq
  rw [e]
  exact hY args h K hq
end

end Lam
