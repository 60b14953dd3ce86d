/- Operations that change nothing: places. -/
import Derived.Test.YtpjnljbfnppmlaaLR5
import Derived.Laws.BytesString
set_option linter.unusedVariables false
set_option linter.unnecessarySimpa false
set_option linter.unusedSectionVars false
set_option linter.unusedSimpArgs false
namespace Lam
open Go

section
variable {P : Program} {X : Cx}

/-! ### Rows, by elements -/
theorem Reads_flat {w : World} {b off : Nat} {l : Lst} : Reads w b off l.flat ↔ ∀ i, i < l.len → Reads w b (off + i * l.kind.size) (l.cell i) := by
  constructor
  · intro h i hi
    obtain ⟨a, r, hf, ha⟩ := flat_split l hi
    rw [hf] at h
    have := h.sub
    rwa [ha] at this
  · intro h j v hj
    have hlt : j < l.flat.length := (List.getElem?_eq_some_iff.1 hj).1
    rw [l.flat_length] at hlt
    have hs := l.kind.size_pos
    have hi : j / l.kind.size < l.len := Nat.div_lt_of_lt_mul (by rwa [Nat.mul_comm])
    have hm : j % l.kind.size < l.kind.size := Nat.mod_lt _ hs
    have e : j / l.kind.size * l.kind.size + j % l.kind.size = j := by rw [Nat.mul_comm]; exact Nat.div_add_mod _ _
    have h1 := h _ hi (j % l.kind.size) v (by rw [← l.flat_get hi hm, e]; exact hj)
    rwa [Nat.add_assoc, e] at h1

theorem cut_len (l : Lst) (a n : Nat) : (l.cut a n).len = min n (l.len - a) := by cases l <;> simp [Lst.cut, Lst.len]
theorem cut_kind (l : Lst) (a n : Nat) : (l.cut a n).kind = l.kind := by cases l <;> rfl

theorem cut_cell (l : Lst) (a n i : Nat) (hi : i < n) : (l.cut a n).cell i = l.cell (a + i) := by
  cases l <;> simp [Lst.cut, Lst.cell, List.getD, hi]

theorem Reads_cut {w : World} {b off : Nat} {l : Lst} {a n : Nat} (h : Reads w b off l.flat) : Reads w b (off + a * l.kind.size) (l.cut a n).flat := by
  rw [Reads_flat] at h ⊢
  intro i hi
  rw [cut_len] at hi
  rw [cut_kind, cut_cell _ _ _ _ (by omega), Nat.add_assoc, ← Nat.add_mul]
  exact h (a + i) (by omega)

/-! ### Slicing -/
def intV (x : Option (IntKind × Int)) : Option Value := x.map fun p => .int p.1 p.2

theorem run_bounds (w : World) (isS : Bool) (len cap : Nat) (lo hi mx : Option (IntKind × Int)) (l h m : Int) (el : l = (lo.map (·.2)).getD 0) (eh : h = (hi.map (·.2)).getD (len : Int))
    (em : m = (mx.map (·.2)).getD (cap : Int)) (hmx : mx.isSome = true → hi.isSome = true) (h0 : 0 ≤ l) (h1 : l ≤ h) (h2 : h ≤ m) (h3 : m ≤ cap) :
    (Instr.sliceBounds isS len cap (intV lo) (intV hi) (intV mx)).run P w = .ok (l.toNat, h.toNat, m.toNat) w := by
  have eh' : ((h.toNat : Nat) : Int) = h := Int.toNat_of_nonneg (by omega)
  have em' : ((m.toNat : Nat) : Int) = m := Int.toNat_of_nonneg (by omega)
  cases lo with
  | none =>
    have : l = 0 := by simpa using el
    subst this
    cases hi with
    | none =>
      cases mx with
      | none => simp at eh em; subst eh em; simp [Instr.sliceBounds, intV]
      | some p => simp at hmx
    | some q =>
      cases mx with
      | none => simp at eh em; subst eh em; simp [Instr.sliceBounds, intV]; rw [run_sliceBound w _ _ _ _ (by omega) (by omega)]; simp
      | some p =>
        simp at eh em; subst eh em; simp [Instr.sliceBounds, intV]; rw [run_sliceBound w _ _ _ _ (by omega) (by omega)]
        simp only [Result.andThen_ok]; rw [run_sliceBound w _ _ _ _ (by omega) (by omega)]; simp
  | some r =>
    have : l = r.2 := by simpa using el
    subst this
    cases hi with
    | none =>
      cases mx with
      | none => simp at eh em; subst eh em; simp [Instr.sliceBounds, intV]; rw [run_sliceBound w _ _ _ _ (by omega) (by omega)]; simp
      | some p => simp at hmx
    | some q =>
      cases mx with
      | none =>
        simp at eh em; subst eh em; simp [Instr.sliceBounds, intV]; rw [run_sliceBound w _ _ _ _ (by omega) (by omega)]
        simp only [Result.andThen_ok]; rw [run_sliceBound w _ _ _ _ (by omega) (by omega)]; simp
      | some p =>
        simp at eh em; subst eh em; simp [Instr.sliceBounds, intV]; rw [run_sliceBound w _ _ _ _ (by omega) (by omega)]
        simp only [Result.andThen_ok]; rw [run_sliceBound w _ _ _ _ (by omega) (by omega)]
        simp only [Result.andThen_ok]; rw [run_sliceBound w _ _ _ _ (by omega) (by omega)]; simp

theorem run_slice_sl {T E : TypeId} {e : LK} (hu : P.underlying T = some (.slice E)) (he : elB P E e = true) (w : World) (a : Option Addr) (len cap : Nat) (lo hi mx : Option (IntKind × Int)) (l h m : Int)
    (el : l = (lo.map (·.2)).getD 0) (eh : h = (hi.map (·.2)).getD (len : Int)) (em : m = (mx.map (·.2)).getD (cap : Int)) (hmx : mx.isSome = true → hi.isSome = true) (h0 : 0 ≤ l) (h1 : l ≤ h) (h2 : h ≤ m) (h3 : m ≤ cap) :
    (Instr.sliceAt T (.slice a len cap) (intV lo) (intV hi) (intV mx)).run P w = .ok (.slice (if m.toNat = l.toNat then a else a.map (·.add (l.toNat * e.size))) (h.toNat - l.toNat) (m.toNat - l.toNat)) w := by
  simp only [Instr.sliceAt, Instr.slice, Sem.run_bind, run_underlying hu, Result.andThen_ok, run_bounds w true len cap lo hi mx l h m el eh em hmx h0 h1 h2 h3, el_size he, Sem.run_pure]

/-- the part of a slice that is told by value -/
theorem SlV_cut {x x' : Bool} {l : Lst} {a : Option Addr} {cap : Nat} (hx : SlV X x l (.slice a l.len cap)) (lo h m : Nat) (h1 : lo ≤ h) (h2 : h ≤ m) (h3 : h ≤ l.len) (h4 : m ≤ cap) (hx' : x' = true → m = h) :
    SlV X x' (l.cut lo (h - lo)) (.slice (if m = lo then a else a.map (·.add (lo * l.kind.size))) (h - lo) (m - lo)) := by
  obtain ⟨a', cap', heq, g1, g2, g3, g4⟩ := hx
  cases heq
  have hlen : (l.cut lo (h - lo)).len = h - lo := by rw [cut_len]; omega
  refine ⟨_, _, by rw [hlen], by rw [hlen]; omega, fun e => by rw [hlen, hx' e], fun e => ?_, fun hne => ?_⟩
  · split at e
    · omega
    · cases a with
      | none => have := g3 rfl; omega
      | some ad => cases e
  · rw [hlen] at hne
    have hm : ¬ m = lo := by omega
    obtain ⟨ad, rfl, hs, hS, hr⟩ := g4 (by omega)
    refine ⟨ad.add (lo * l.kind.size), by simp [hm], ?_, ?_, ?_⟩
    · unfold Addr.add; split <;> simp [hs]
    · unfold Addr.add; split <;> exact hS
    · have := Reads_cut (a := lo) (n := h - lo) hr
      unfold Addr.add; split
      · rename_i e; rwa [e, Nat.add_zero] at this
      · exact this

def OptR (X : Cx) : Option AV → Option Value → Prop
  | none, none => True
  | some v, some c => VV X v c
  | _, _ => False

theorem optInt {lo : Option AV} {cl : Option Value} {k : IntKind} {z a : Int} (h : OptR X lo cl) (e : lo.getD (.int .i64 z) = .int k a) :
    ∃ lo', cl = intV lo' ∧ (lo'.map (·.2)).getD z = a ∧ lo'.isSome = lo.isSome := by
  cases lo with
  | none =>
    cases cl with
    | none => simp at e; exact ⟨none, rfl, e.2, rfl⟩
    | some c => exact h.elim
  | some v =>
    cases cl with
    | none => exact h.elim
    | some c =>
      have e : v = .int k a := e
      subst e
      have h : c = .int k a := h
      subst h
      exact ⟨some (k, a), rfl, rfl, rfl⟩

theorem optNone {lo : Option AV} {cl : Option Value} (h : OptR X lo cl) (e : lo = none) : cl = intV none := by
  subst e; cases cl with
  | none => rfl
  | some c => exact h.elim

theorem sliceSl_sound {T : TypeId} {x : Bool} {l : Lst} {c : Value} {d : TyD} {lo hi mx : Option AV} {clo chi cmx : Option Value} {S : Prop} {v : AV} {news : List AObj}
    (hT : tyB P d T = true) (hx : VV X (.sl x l) c) (hlo : OptR X lo clo) (hhi : OptR X hi chi) (hmx : OptR X mx cmx)
    (h : whenD (d.isSlice l.kind) (sliceSlD x l lo hi mx) = some (S, v, news)) (hS : S) : news = [] ∧ Pure P (Instr.sliceAt T c clo chi cmx) X v := by
  unfold whenD at h
  split at h
  rotate_left
  · cases h
  rename_i hk
  obtain ⟨rfl⟩ : d = .slice l.kind := by
    unfold TyD.isSlice at hk; split at hk
    · simp at hk; rw [hk]
    · cases hk
  obtain ⟨E, hu, he⟩ := ty_slice hT
  obtain ⟨a, cap, rfl, g1, g2, g3, g4⟩ := id hx
  have run := fun lo hi mx l' h m el eh em hm h0 h1 h2 h3 => run_slice_sl (P := P) hu he X.w a l.len cap lo hi mx l' h m el eh em hm h0 h1 h2 h3
  unfold sliceSlD at h
  split at h
  · obtain ⟨rfl, rfl, rfl⟩ := pD_inv h
    have e1 := optNone hlo rfl; have e2 := optNone hhi rfl; have e3 := optNone hmx rfl
    subst e1 e2 e3
    refine ⟨rfl, _, run none none none 0 l.len cap rfl rfl rfl (by simp) (by omega) (by omega) (by omega) (by omega), ?_⟩
    have := SlV_cut (x' := x) hx 0 l.len cap (by omega) (by omega) (by omega) (by omega) g2
    simp only [Int.toNat_zero, Int.toNat_natCast, Nat.sub_zero] at this ⊢
    have e : l.cut 0 l.len = l := by cases l <;> simp [Lst.cut, Lst.len]
    rwa [e] at this
  · rename_i k b
    obtain ⟨rfl, rfl, rfl⟩ := pD_inv h
    have e1 := optNone hlo rfl; have e3 := optNone hmx rfl
    obtain ⟨hi', e2, e2', _⟩ := optInt (z := 0) hhi rfl
    subst e1 e2 e3
    refine ⟨rfl, _, run none hi' none 0 b cap rfl (by cases hi' <;> simp_all) rfl (by simp) (by omega) (by omega) (by omega) (by omega), ?_⟩
    have := SlV_cut (x' := false) hx 0 b.toNat cap (by omega) (by omega) (by omega) (by omega) (by simp)
    show SlV X _ _ _
    simpa using this
  · rename_i k b
    obtain ⟨rfl, rfl, rfl⟩ := pD_inv h
    have e1 := optNone hhi rfl; have e3 := optNone hmx rfl
    obtain ⟨lo', e2, e2', _⟩ := optInt (z := 0) hlo rfl
    subst e1 e2 e3
    refine ⟨rfl, _, run lo' none none b l.len cap e2'.symm rfl rfl (by simp) (by omega) (by omega) (by omega) (by omega), ?_⟩
    have := SlV_cut (x' := x) hx b.toNat l.len cap (by omega) (by omega) (by omega) (by omega) g2
    show SlV X _ _ _
    simpa using this
  · rename_i k b k' b'
    obtain ⟨rfl, rfl, rfl⟩ := pD_inv h
    have e3 := optNone hmx rfl
    obtain ⟨lo', e2, e2', _⟩ := optInt (z := 0) hlo rfl
    obtain ⟨hi', e1, e1', _⟩ := optInt (z := 0) hhi rfl
    subst e1 e2 e3
    refine ⟨rfl, _, run lo' hi' none b b' cap e2'.symm (by cases hi' <;> simp_all) rfl (by simp) (by omega) (by omega) (by omega) (by omega), ?_⟩
    have := SlV_cut (x' := false) hx b.toNat b'.toNat cap (by omega) (by omega) (by omega) (by omega) (by simp)
    show SlV X _ _ _
    simpa using this
  · rename_i k b k' b'
    obtain ⟨rfl, rfl, rfl⟩ := pD_inv h
    have e3 := optNone hlo rfl
    obtain ⟨hi', e2, e2', q2⟩ := optInt (z := 0) hhi rfl
    obtain ⟨mx', e1, e1', q1⟩ := optInt (z := 0) hmx rfl
    subst e1 e2 e3
    refine ⟨rfl, _, run none hi' mx' 0 b b' rfl (by cases hi' <;> simp_all) (by cases mx' <;> simp_all) (by simp [q2]) (by omega) (by omega) (by omega) (by omega), ?_⟩
    have := SlV_cut (x' := true) hx 0 b.toNat b'.toNat (by omega) (by omega) (by omega) (by omega) (by omega)
    show SlV X _ _ _
    simpa using this
  · rename_i k0 b0 k b k' b'
    obtain ⟨rfl, rfl, rfl⟩ := pD_inv h
    obtain ⟨lo', e3, e3', _⟩ := optInt (z := 0) hlo rfl
    obtain ⟨hi', e2, e2', q2⟩ := optInt (z := 0) hhi rfl
    obtain ⟨mx', e1, e1', q1⟩ := optInt (z := 0) hmx rfl
    subst e1 e2 e3
    refine ⟨rfl, _, run lo' hi' mx' b0 b b' e3'.symm (by cases hi' <;> simp_all) (by cases mx' <;> simp_all) (by simp [q2]) (by omega) (by omega) (by omega) (by omega), ?_⟩
    have := SlV_cut (x' := true) hx b0.toNat b.toNat b'.toNat (by omega) (by omega) (by omega) (by omega) (by omega)
    show SlV X _ _ _
    simpa using this
  · cases h

theorem fitsRow_of {d : TyD} {o : Option AObj} (h : d.fitsRow (rowKind o) = true) : ∃ k ver l, rowO o = some (k, ver, l) ∧ d = .slice l.kind := by
  unfold rowKind at h
  split at h
  · rename_i k ver l
    unfold TyD.fitsRow at h
    split at h
    · rename_i hk; cases hk; simp at h; exact ⟨k, ver, l, rfl, by rw [h]⟩
    · cases h
  · unfold TyD.fitsRow at h; split at h <;> simp_all

theorem sliceSr_sound {T : TypeId} {x : Bool} {id ver off len : Nat} {c : Value} {d : TyD} {lo hi mx : Option AV} {clo chi cmx : Option Value} {S : Prop} {v : AV} {news : List AObj}
    (hT : tyB P d T = true) (hx : VV X (.sref x id ver off len) c) (hlo : OptR X lo clo) (hhi : OptR X hi chi) (hmx : OptR X mx cmx)
    (hd : d.fitsRow (rowKind (X.h[id]?)) = true)
    (h : sliceSrD x id ver off len lo hi mx = some (S, v, news)) (hS : S) (hver : ∀ k ver' l, rowO (X.h[id]?) = some (k, ver', l) → ver = ver') : news = [] ∧ Pure P (Instr.sliceAt T c clo chi cmx) X v := by
  obtain ⟨rk, ver', l, hl, rfl⟩ := fitsRow_of hd
  obtain ⟨E, hu, he⟩ := ty_slice hT
  obtain ⟨a, n, cap, rfl, rk', ver2, l2, hl2, g0, g⟩ := hx
  rw [hl] at hl2; cases hl2
  obtain ⟨rfl, g1, g2, g3, g4, g5⟩ := g (hver _ _ _ hl)
  have run := fun lo hi mx l' h m el eh em hm h0 h1 h2 h3 => run_slice_sl (P := P) hu he X.w a n cap lo hi mx l' h m el eh em hm h0 h1 h2 h3
  have fin : ∀ (x' : Bool) (lo h m : Nat), lo ≤ h → h ≤ n → h ≤ m → m ≤ cap → (x' = true → m = h) →
      VV X (.sref x' id ver (off + lo) (h - lo)) (.slice (if m = lo then a else a.map (·.add (lo * l.kind.size))) (h - lo) (m - lo)) := by
    intro x' lo h m q1 q2 q3 q4 q5
    refine ⟨_, _, _, rfl, rk, ver', l, hl, g0, fun _ => ⟨rfl, by omega, by omega, fun e => by rw [q5 e], fun e => ?_, fun hc => ?_⟩⟩
    · split at e
      · omega
      · cases a with
        | none => have := g4 rfl; omega
        | some ad => cases e
    · obtain ⟨b, hb, ha, hz⟩ := g5 (by omega)
      refine ⟨b, hb, ?_, ?_⟩
      · rw [if_neg (by omega), ha]; simp only [Option.map_some, Addr.add_lit, Nat.add_mul]
      · refine Nat.le_trans (Nat.mul_le_mul_right _ ?_) hz; omega
  unfold sliceSrD at h
  split at h
  · rename_i ka a0 kb b0 e1 e2
    obtain ⟨rfl, rfl, rfl⟩ := pD_inv h
    have e3 := optNone hmx rfl
    obtain ⟨lo', q1, q1', _⟩ := optInt hlo e1
    obtain ⟨hi', q2, q2', q2''⟩ := optInt hhi e2
    subst q1 q2 e3
    refine ⟨rfl, _, run lo' hi' none a0 b0 cap q1'.symm q2'.symm rfl (by simp) (by omega) (by omega) (by omega) (by omega), ?_⟩
    have := fin (x && hi.isNone) a0.toNat b0.toNat cap (by omega) (by omega) (by omega) (by omega) (fun e => by
      simp only [Bool.and_eq_true] at e
      have h1 := g3 e.1
      cases hi with
      | none => simp at e2; omega
      | some _ => simp at e)
    simpa using this
  · rename_i ka a0 kb b0 km m0 e1 e2
    obtain ⟨rfl, rfl, rfl⟩ := pD_inv h
    obtain ⟨hs, hS⟩ := hS
    obtain ⟨lo', q1, q1', _⟩ := optInt hlo e1
    obtain ⟨hi', q2, q2', q2''⟩ := optInt hhi e2
    obtain ⟨mx', q3, q3', q3''⟩ := optInt (z := 0) hmx rfl
    subst q1 q2 q3
    refine ⟨rfl, _, run lo' hi' mx' a0 b0 m0 q1'.symm q2'.symm (by cases mx' <;> simp_all) (by simp [q2'', hs]) (by omega) (by omega) (by omega) (by omega), ?_⟩
    have := fin true a0.toNat b0.toNat m0.toNat (by omega) (by omega) (by omega) (by omega) (fun e => by omega)
    simpa using this
  · cases h

theorem whenD_inv {b : Bool} {x : D} {r} (h : whenD b x = some r) : b = true ∧ x = some r := by
  cases b
  · cases h
  · exact ⟨rfl, h⟩

theorem flat_le {k : RK} {ver : Nat} {l : Lst} {id b : Nat} (H : HR X) (hl : rowO (X.h[id]?) = some (k, ver, l)) (hb : X.μ[id]? = some (some b)) : l.len * l.kind.size ≤ blockSize X.w b := by
  obtain ⟨o, ho⟩ : ∃ o, X.h[id]? = some o := by cases h : X.h[id]? with
    | none => rw [h] at hl; cases hl
    | some o => exact ⟨o, rfl⟩
  rw [ho] at hl
  cases o <;> simp only [rowO, reduceCtorEq, Option.some.injEq, Prod.mk.injEq] at hl
  obtain ⟨rfl, rfl, rfl⟩ := hl
  obtain ⟨b', hb', hor⟩ := H.obj _ _ ho
  rw [hb] at hb'; cases hb'
  rcases hor with ⟨h, _⟩ | ⟨b2, cs, e, h1, h2, ⟨r, hr⟩, _⟩
  · cases h
  · cases h1
    simp only [blockSize, h2]
    rw [← Array.length_toList, hr, List.length_append, Lst.flat_length]; omega

theorem sliceArr_sound {T : TypeId} {id : Nat} {c : Value} {d : TyD} {lo hi mx : Option AV} {clo chi cmx : Option Value} {S : Prop} {v : AV} {news : List AObj} (H : HR X)
    (hT : tyB P d T = true) (hx : VV X (.ptr id []) c) (hlo : OptR X lo clo) (hhi : OptR X hi chi) (hmx : OptR X mx cmx)
    (h : sliceArrD (X.h[id]?) id d lo hi mx = some (S, v, news)) (hS : S) : news = [] ∧ Pure P (Instr.sliceAt T c clo chi cmx) X v := by
  unfold sliceArrD at h
  split at h
  rotate_left
  · cases h
  rename_i ver l hrow
  have hd := (whenD_inv h).1
  have h2 := (whenD_inv h).2
  clear h
  obtain ⟨rfl⟩ : d = .arr l.len l.kind := by
    unfold TyD.isArr at hd; split at hd
    · simp at hd; rw [hd.1, hd.2]
    · cases hd
  obtain ⟨E, hu, he⟩ := ty_arr hT
  split at h2
  rotate_left
  · cases h2
  rename_i ka a0 kb b0 e1 e2
  obtain ⟨rfl, rfl, rfl⟩ := pD_inv h2
  have e3 := optNone hmx rfl
  obtain ⟨lo', q1, q1', _⟩ := optInt hlo e1
  obtain ⟨hi', q2, q2', q2''⟩ := optInt hhi e2
  subst q1 q2 e3
  obtain ⟨b, hb, rfl, _⟩ : ∃ b, X.μ[id]? = some (some b) ∧ c = .pointer (some ⟨b, 0, none⟩) ∧ _ := hx
  have hl : rowO (X.h[id]?) = some (.arr, ver, l) := by rw [hrow]; rfl
  have hsz := flat_le H hl hb
  refine ⟨rfl, .slice (some (if l.len = a0.toNat then ⟨b, 0, none⟩ else (⟨b, 0, none⟩ : Addr).add (a0.toNat * l.kind.size))) (b0.toNat - a0.toNat) (l.len - a0.toNat), ?_, ?_⟩
  · have hr := run_bounds (P := P) X.w false l.len l.len lo' hi' none a0 b0 l.len q1'.symm q2'.symm rfl (by simp) (by omega) (by omega) (by omega) (by omega)
    rw [show intV none = none from rfl] at hr
    simp only [show intV none = none from rfl, Instr.sliceAt, Sem.run_bind, run_underlying hu, Result.andThen_ok, Instr.sureAddr, Sem.run_pure, hr, el_size he, Int.toNat_natCast]
  · refine ⟨_, _, _, rfl, _, ver, l, hl, Nat.le_refl _, fun _ => ⟨rfl, by omega, by omega, fun e => ?_, fun e => (by cases e), fun hc => ⟨b, hb, ?_, ?_⟩⟩⟩
    · cases hi with
      | none => simp at e2; omega
      | some _ => simp at e
    · rw [if_neg (by omega), Addr.add_lit, Nat.zero_add]
    · refine Nat.le_trans (Nat.mul_le_mul_right _ ?_) hsz; omega

theorem extract_bstr (s : Bytes) (l h : Nat) : (bstr s).extract l h = bstr ((s.drop l).take (h - l)) := by
  apply ByteArray.ext
  simp [bstr, ByteArray.data_extract]

theorem sliceStr_sound {T : TypeId} {s : Bytes} {c : Value} {lo hi mx : Option AV} {clo chi cmx : Option Value} {S : Prop} {v : AV} {news : List AObj}
    (hT : tyB P .str T = true) (hx : VV X (.str s) c) (hlo : OptR X lo clo) (hhi : OptR X hi chi) (hmx : OptR X mx cmx)
    (h : sliceStrD s lo hi mx = some (S, v, news)) (hS : S) : news = [] ∧ Pure P (Instr.sliceAt T c clo chi cmx) X v := by
  have hx : c = .string (bstr s) := hx
  subst hx
  have run : ∀ (lo hi : Option (IntKind × Int)) (l h : Int), l = (lo.map (·.2)).getD 0 → h = (hi.map (·.2)).getD (s.length : Int) → 0 ≤ l → l ≤ h → h ≤ s.length →
      (Instr.sliceAt T (.string (bstr s)) (intV lo) (intV hi) none).run P X.w = .ok (.string (bstr ((s.drop l.toNat).take (h.toNat - l.toNat)))) X.w := by
    intro lo hi l h el eh h0 h1 h2
    have hr := run_bounds (P := P) X.w false s.length s.length lo hi none l h s.length el eh rfl (by simp) (by omega) (by omega) (by omega) (by omega)
    rw [show intV none = none from rfl] at hr
    simp [Instr.sliceAt, Instr.slice, run_underlying (ty_str hT), hr, extract_bstr]
  unfold sliceStrD at h
  split at h
  · obtain ⟨rfl, rfl, rfl⟩ := pD_inv h
    have e1 := optNone hlo rfl; have e3 := optNone hmx rfl
    obtain ⟨hi', e2, e2', _⟩ := optInt (z := s.length) hhi rfl
    subst e1 e2 e3
    refine ⟨rfl, _, run none hi' 0 _ rfl e2'.symm (by omega) (by omega) (by omega), ?_⟩
    simp [VV, VB]
  · obtain ⟨rfl, rfl, rfl⟩ := pD_inv h
    have e1 := optNone hhi rfl; have e3 := optNone hmx rfl
    obtain ⟨lo', e2, e2', _⟩ := optInt (z := 0) hlo rfl
    subst e1 e2 e3
    refine ⟨rfl, _, run lo' none _ s.length e2'.symm rfl (by omega) (by omega) (by omega), ?_⟩
    simp only [VV, VB, Int.toNat_natCast]
    congr 2
    rw [List.take_of_length_le (by simp)]
  · obtain ⟨rfl, rfl, rfl⟩ := pD_inv h
    have e3 := optNone hmx rfl
    obtain ⟨lo', e2, e2', _⟩ := optInt (z := 0) hlo rfl
    obtain ⟨hi', e1, e1', _⟩ := optInt (z := s.length) hhi rfl
    subst e1 e2 e3
    refine ⟨rfl, _, run lo' hi' _ _ e2'.symm e1'.symm (by omega) (by omega) (by omega), ?_⟩
    simp [VV, VB]
  · cases h

theorem slice_sound {T : TypeId} {x : AV} {c : Value} {d : TyD} {lo hi mx : Option AV} {clo chi cmx : Option Value} {S : Prop} {v : AV} {news : List AObj} (H : HR X)
    (hT : tyB P d T = true) (hx : VV X x c) (hlo : OptR X lo clo) (hhi : OptR X hi chi) (hmx : OptR X mx cmx)
    (h : sliceD d X.h x lo hi mx = some (S, v, news)) (hS : S) : news = [] ∧ Pure P (Instr.sliceAt T c clo chi cmx) X v := by
  unfold sliceD at h
  split at h
  · obtain ⟨hd, h⟩ := whenD_inv h
    obtain rfl : d = .str := by cases d <;> first | rfl | cases hd
    exact sliceStr_sound hT hx hlo hhi hmx h hS
  · exact sliceSl_sound hT hx hlo hhi hmx h hS
  · obtain ⟨hd, h⟩ := whenD_inv h
    obtain ⟨hv, h⟩ := whenD_inv h
    refine sliceSr_sound hT hx hlo hhi hmx hd h hS fun k ver' l hl => ?_
    unfold verB at hv
    split at hv
    · rename_i hh; rw [hh] at hl; cases hl; simpa using hv
    · cases hv
  · exact sliceArr_sound H hT hx hlo hhi hmx h hS
  · cases h
end
end Lam
