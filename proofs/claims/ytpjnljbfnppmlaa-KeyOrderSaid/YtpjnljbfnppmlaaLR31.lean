/- Regions that draw their order, whole. -/
import Derived.Test.YtpjnljbfnppmlaaLR30
set_option linter.unnecessarySimpa false
set_option linter.unusedSectionVars false
set_option linter.unusedSimpArgs false
set_option linter.unusedVariables false
namespace Lam
open Go

theorem set_false {listed : Array Bool} {i j : Nat} (h : listed.getD j true = false) : (listed.setIfInBounds j true).getD i false = true ↔ (listed.getD i false = true ∨ i = j) := by
  have hj : j < listed.size := by
    rcases Nat.lt_or_ge j listed.size with h1 | h1
    · exact h1
    · rw [Array.getD_eq_getD_getElem?, Array.getElem?_eq_none h1] at h; cases h
  simp only [Array.getD_eq_getD_getElem?, Array.getElem?_setIfInBounds]
  by_cases e : j = i
  · subst e; simp [hj]
  · simp [e, Ne.symm e]

section
variable {ro : Option Nat} {P : Program} {n : Nat} {ds : Nat} {c : Ctx} {ops : Array Oper} {t0 : List (Nat × AV)} {h0 : List AObj} {rs : Nat → Rec} {tk : Nat → List (Nat × AV)} {η : Nat → List AObj} {b : Nat → Nat → Bool}

theorem drawn_any (C : CtxOk P c) (T : TS c ops.toList ops.toList t0 h0 rs tk η) (DF : DrawFacts ops.toList b) (SP : Sep ops.toList b (tk ops.toList.length)) (hd : ∀ o ∈ ops.toList, ∀ i, o.dst = some i → i < n) (nf : Nat) {Q : Exit → Act → World → Prop} {X00 : Cx}
    (hQ : ∀ Y a', HR Y → Ext X00 Y → SR n ds Y (tk ops.toList.length) a' → Y.h = η ops.toList.length → Q .normal a' Y.w) :
    ∀ (fuel : Nat) (listed : Array Bool) (X : Cx) (a : Act), listed.size = ops.size → listed.toList.count false ≤ fuel → Ext X00 X → DI n ds ops.toList b rs tk η (fun i => listed.getD i false = true) X a →
      wpAnyIn (FW ro) nf P .any ops Q fuel listed a X.w := by
  have fin : ∀ (listed : Array Bool) (X : Cx) (a : Act), Ext X00 X → DI n ds ops.toList b rs tk η (fun i => listed.getD i false = true) X a → (∀ i, i < ops.toList.length → listed.getD i false = true) → Q .normal a X.w := by
    intro listed X a E I hall
    refine hQ X a I.hr E ⟨fun i => I.tmp i _ (Nat.le_refl _) fun m o hm _ => ?_, I.size, I.defers⟩ ?_
    · have := (List.getElem?_eq_some_iff.1 hm).1
      exact ⟨fun _ => hall m this, fun _ => this⟩
    · apply List.ext_getElem?
      intro id
      rcases Nat.lt_or_ge id (η ops.toList.length).length with h | h
      · rw [I.heap id _ (Nat.le_refl _) h fun m hm _ => ⟨fun _ => hall m hm, fun _ => hm⟩]
        unfold hx; rw [if_pos h]
      · rw [List.getElem?_eq_none h, List.getElem?_eq_none (by rw [I.len]; exact h)]
  have noready : ∀ (listed : Array Bool), listed.size = ops.size → Region.ready .any ops listed = [] → ∀ i, i < ops.toList.length → listed.getD i false = true := by
    intro listed hsz hr i
    induction i using Nat.strongRecOn with
    | _ i ih =>
      intro hi
      have hi' : i < ops.size := by simpa using hi
      apply Classical.byContradiction
      intro hc
      have : i ∈ Region.ready .any ops listed := by
        rw [mem_ready]
        refine ⟨?_, ops[i], by simp [hi'], fun e he hb => ?_⟩
        · rw [Array.getD_eq_getD_getElem?, Array.getElem?_eq_getElem (by omega)] at hc ⊢
          simpa using hc
        · have hlt := DF.edge i ops[i] (by simp [hi']) e (by simpa using he) hb
          exact ih e.on hlt (by omega)
      rw [hr] at this; cases this
  intro fuel
  induction fuel with
  | zero =>
    intro listed X a hsz hc E I
    have hall : ∀ i, i < ops.toList.length → listed.getD i false = true := by
      intro i hi
      have hi' : i < listed.size := by rw [hsz]; simpa using hi
      have h0 : listed.toList.count false = 0 := by omega
      rw [List.count_eq_zero] at h0
      rw [Array.getD_eq_getD_getElem?, Array.getElem?_eq_getElem hi']
      simp only [Option.getD_some]
      cases hx : listed[i] with
      | true => rfl
      | false => exact absurd (by rw [← hx]; simp) h0
    refine ⟨?_, fin listed X a E I hall⟩
    apply List.eq_nil_iff_forall_not_mem.2
    intro j hj
    rw [mem_ready] at hj
    obtain ⟨h1, o, ho, _⟩ := hj
    have hjl : j < ops.toList.length := by simpa using (Array.getElem?_eq_some_iff.1 ho).1
    have := hall j hjl
    have hjs : j < listed.size := by rw [hsz]; simpa using hjl
    rw [Array.getD_eq_getD_getElem?, Array.getElem?_eq_getElem hjs] at this h1
    simp only [Option.getD_some] at this h1
    rw [this] at h1; cases h1
  | succ fuel ih =>
    intro listed X a hsz hc E I
    refine ⟨fun hr => fin listed X a E I (noready listed hsz hr), fun k hk => ?_⟩
    rw [mem_ready] at hk
    obtain ⟨hkf, o, ho, hedges⟩ := hk
    have hoL : ops.toList[k]? = some o := by simpa using ho
    have hks : k < listed.size := by rw [hsz]; exact (Array.getElem?_eq_some_iff.1 ho).1
    have hkD : ¬ listed.getD k false = true := by
      rw [Array.getD_eq_getD_getElem?, Array.getElem?_eq_getElem hks] at hkf ⊢
      simp only [Option.getD_some] at hkf ⊢
      rw [hkf]; simp
    have hready : ∀ e ∈ o.after.toList, Region.binds .any e = true → listed.getD e.on false = true := fun e he hb => hedges e (by simpa using he) hb
    have hdo : ∀ i, o.dst = some i → i < n := hd o (List.mem_of_getElem? hoL)
    have hset : (fun i => (listed.setIfInBounds k true).getD i false = true) = fun i => listed.getD i false = true ∨ i = k := by
      funext i; exact propext (set_false hkf)
    have hcnt : (listed.setIfInBounds k true).toList.count false ≤ fuel := by
      have hlf : listed.toList[k]'(by simpa using hks) = false := by
        rw [Array.getD_eq_getD_getElem?, Array.getElem?_eq_getElem hks] at hkf
        simpa using hkf
      rw [Array.toList_setIfInBounds, List.count_set (by simpa using hks), hlf]
      have e1 : (false == false) = true := rfl
      have e2 : ¬ (true == false) = true := by decide
      rw [if_pos e1, if_neg e2]; omega
    have next : ∀ (Y : Cx) (q : Value), HR Y → Ext X Y → Y.h = mutate (place X.h (η k).length (rs k).news) (rs k).mm → VV Y (rs k).v q →
        wpAnyIn (FW ro) nf P .any ops Q fuel (listed.setIfInBounds k true) (a.put o.dst q) Y.w := by
      intro Y q HY EY hh hv
      refine ih _ Y _ (by simpa using hsz) hcnt (E.trans EY) ?_
      rw [hset]
      exact ready_next T DF SP I hoL hkD hready hdo HY EY hh hv
    unfold wpOpIn
    rw [ho]
    have pass : (rs k).ran = false → Region.wanted o (yielded ops a.tmps) = false →
        (if Region.wanted o (yielded ops a.tmps) = true then o.wpIn (FW ro) nf P a X.w (wpAnyIn (FW ro) nf P .any ops Q fuel (listed.setIfInBounds k true)) Q
          else (∀ f, o.about P X.w a.eval = some f → (FW ro).fn f) ∧ wpAnyIn (FW ro) nf P .any ops Q fuel (listed.setIfInBounds k true) (a.put o.dst undef) X.w) := by
      intro hr hw
      rw [if_neg (by rw [hw]; simp)]
      obtain ⟨p1, p2, p3⟩ := T.pass k o hoL hr
      exact ⟨fun _ _ => trivial, next X undef I.hr (Ext.refl X) (by rw [p2, p3]; rfl) (by rw [p1]; rfl)⟩
    have run : (rs k).ran = true → Region.wanted o (yielded ops a.tmps) = true →
        (if Region.wanted o (yielded ops a.tmps) = true then o.wpIn (FW ro) nf P a X.w (wpAnyIn (FW ro) nf P .any ops Q fuel (listed.setIfInBounds k true)) Q
          else (∀ f, o.about P X.w a.eval = some f → (FW ro).fn f) ∧ wpAnyIn (FW ro) nf P .any ops Q fuel (listed.setIfInBounds k true) (a.put o.dst undef) X.w) := by
      intro hr hw
      rw [if_pos hw]
      obtain ⟨S, hS, e⟩ := ready_opD T DF SP I hoL hkD hready hr
      have hto := opD_sound (ro := ro) (a := a) I.hr C (fun x hx d => ready_opd T DF I hoL hkD hready hx d) (ready_dead T DF SP I hoL hkD hready) e hS
      refine hto nf _ Q fun q w' hg => ?_
      obtain ⟨Y, rfl, hYh, HY, EY, hv⟩ := hg
      exact next Y q HY EY hYh hv
    have hg := T.guard k o hoL
    show (if Region.wanted o (yielded ops a.tmps) = true then _ else _)
    split at hg
    · rename_i hgn
      exact run hg (by simp [Region.wanted, hgn])
    · rename_i j want hgs
      obtain ⟨g, hgt, hcase⟩ := hg
      have hv := ready_guard T DF I hoL hkD hready hgs hgt
      rcases hcase with ⟨bb, hb, hran⟩ | ⟨hb, hran⟩
      · rw [hb] at hv
        have hy := yield_bool hgt hv
        have hw : Region.wanted o (yielded ops a.tmps) = (bb == want) := by simp [Region.wanted, hgs, hy]
        cases hbw : (bb == want) with
        | true => exact run (by rw [hran, hbw]) (by rw [hw, hbw])
        | false => exact pass (by rw [hran, hbw]) (by rw [hw, hbw])
      · rw [hb] at hv
        have hy := yield_und hgt hv
        exact pass hran (by simp [Region.wanted, hgs, hy])

/-- a world of which the heap is the same -/
theorem same_heap {X : Cx} (H : HR X) {w' : World} (hw : w'.heap = X.w.heap) (hv : SameEnv X.w w') : HR ⟨X.S, X.μ, X.h, w'⟩ ∧ Ext X ⟨X.S, X.μ, X.h, w'⟩ := by
  have E : Ext X ⟨X.S, X.μ, X.h, w'⟩ := by
    refine ⟨fun _ h => h, fun b _ => by rw [hw], fun b hb => .inl hb, fun i b hb => .inl hb, fun b _ _ => by rw [hw], by rw [hw]; exact Nat.le_refl _, fun i k ver l hl => ?_, fun i b h1 h2 => ⟨h2, h1⟩, hv⟩
    exact ⟨k, ver, l, hl, Nat.le_refl _, fun _ => ⟨rfl, rfl, fun b hb => ⟨hb, by simp only [blockSize, hw]; exact Nat.le_refl _⟩⟩, fun h => ⟨h, rfl⟩⟩
  refine ⟨⟨H.len, fun i o ho => ?_, H.apart, fun i b hb => ?_, fun b hb => ?_⟩, E⟩
  · obtain ⟨b, hb, hor⟩ := H.obj i o ho
    exact ⟨b, hb, hor.ext E fun k _ => by rw [hw]⟩
  · have := H.live i b hb
    rw [hw]; exact this
  · rw [hw]; exact H.old b hb

theorem noS_ok (C : CtxOk P c) : CtxOk P c.noS := ⟨C.tab, C.sh, C.fok⟩

theorem region_draw (C : CtxOk P c) (hm : P.follows .mixedOrders = true) (nf : Nat) {X : Cx} {a : Act} {t : List (Nat × AV)} (H : HR X) (R : SR n ds X t a) {id : Nat} (hd : ∀ o ∈ ops.toList, ∀ i, o.dst = some i → i < n)
    {κ : List (Nat × AV) → List AObj → Prop} {Q : Exit → Act → World → Prop} (hok : drawOk ops.toList (befores ops.toList []) = true)
    (hw : opsW c.noS ops.toList (fun _ _ => False) (fun t h => sepW t (sepsOf ops.toList (befores ops.toList [])) (κ t h)) ops.toList [] t X.h)
    (hQ : ∀ Y t' a', HR Y → Ext X Y → SR n ds Y t' a' → κ t' Y.h → Q .normal a' Y.w) : (Code.region id ops true).wpIn (FW ro) nf P Q a X.w := by
  have DF := drawFacts hok
  obtain ⟨rs, tk, η, T, hκ⟩ := opsW_trace (noS_ok C) rfl (fun _ _ _ _ h => h) (fun _ _ _ _ h => h) ops.toList ops.toList [] t X a hd (fun o ho => by
    obtain ⟨k, hk⟩ := List.getElem?_of_mem ho
    exact DF.noNil k o hk) (Kn.nil t) H R hw
  obtain ⟨hκ, hsep⟩ := sepW_inv hκ
  have SP : Sep ops.toList (fun k j => ((befores ops.toList []).getD k 0).testBit j) (tk ops.toList.length) := by
    refine ⟨fun i j oi oj hi hj hne h1 h2 hmu hl => ?_⟩
    have hp := mem_pairs hi hj hne h1 h2 hmu hl
    have hq : (mutOf oi, oj.op.operands.toList) ∈ sepsOf ops.toList (befores ops.toList []) := by
      unfold sepsOf
      refine List.mem_map.2 ⟨_, hp, ?_⟩
      simp only [hi, hj]
    obtain ⟨x, hx, hb⟩ := hsep _ hq
    exact ⟨x, hx, hb⟩
  refine wpIn_region_any hm ?_
  obtain ⟨H1, E1⟩ := same_heap H (w' := { X.w with drawn := X.w.drawn + 1 }) rfl ⟨rfl, rfl, rfl⟩
  obtain ⟨H2, E2⟩ := pad_ok H1 ((η ops.toList.length).length - X.h.length)
  have E3 := E1.trans E2
  have R3 := R.ext E3
  have hs0 : (η 0).length ≤ (η ops.toList.length).length := T.mono (Nat.zero_le _) (Nat.le_refl _)
  have hη0 : η 0 = X.h := T.h0
  rw [hη0] at hs0
  refine drawn_any (noS_ok C) T DF SP hd nf (X00 := X) (fun Y a' HY EY RY hh => hQ Y _ a' HY EY RY (by rw [hh]; exact hκ)) ops.size (Array.replicate ops.size false) _ a (by simp) ?_ E3 ?_
  · simp
  · have hF : ∀ i, ¬ (Array.replicate ops.size false).getD i false = true := by
      intro i
      simp only [Array.getD_eq_getD_getElem?, Array.getElem?_replicate]
      split <;> simp
    refine ⟨H2, ?_, fun id k hk hid hyp => ?_, fun m id o hm hD => absurd hD (hF m), fun k hD => absurd hD (hF k), fun i k hk hyp => ?_, R.size, R3.defers⟩
    · simp only [Cx.pad, List.length_append, List.length_replicate]; omega
    · rw [pad_h, T.hx_same (k := 0) (k' := k) (Nat.zero_le _) hk fun m _ h2 ht => hF m ((hyp m (by omega) ht).1 h2)]
      unfold hx
      rw [hη0]
      by_cases h1 : id < X.h.length
      · simp only [h1, if_true]
      · simp only [h1, if_false]
        rw [if_pos (by show id < X.h.length + _; omega)]
    · rw [T.tk_same (k := 0) (k' := k) (Nat.zero_le _) hk fun m o _ h2 hm' hdm => hF m ((hyp m o hm' hdm).1 h2), T.t0]
      exact R3.v i
end

end Lam
