/- What functions of the program come to, each proved from its code. -/
import Derived.Test.YtpjnljbfnppmlaaLK2
namespace Lam
open Go Go.Proofs
set_option linter.unusedVariables false
set_option linter.unnecessarySimpa false
set_option linter.unusedSimpArgs false

/-! ### Words and bytes -/
theorem pv_append (p q : Bytes) : pv (p ++ q) = pv p * 256 ^ q.length + pv q := by
  have key : ∀ (q : Bytes) (a : Nat), q.foldl (fun a b => a * 256 + b.toNat) a = a * 256 ^ q.length + pv q := by
    intro q
    induction q with
    | nil => intro a; simp [pv]
    | cons b r ih =>
      intro a
      have h1 := ih (a * 256 + b.toNat)
      have h2 := ih b.toNat
      have h3 : pv (b :: r) = r.foldl (fun a b => a * 256 + b.toNat) b.toNat := by simp [pv]
      rw [h3, h2, List.foldl_cons, h1, List.length_cons, Nat.pow_succ, Nat.add_mul]
      rw [Nat.mul_assoc a 256, Nat.mul_comm 256]
      omega
  have := key q (pv p)
  rw [← this]
  simp [pv]

theorem pv_zeros (n : Nat) : pv (List.replicate n 0) = 0 := by
  induction n with
  | zero => rfl
  | succ n ih => simpa [pv, List.replicate_succ] using ih

/-- a piece, with bytes 0 behind it -/
def padB (p : Bytes) : Bytes := p ++ List.replicate (7 - p.length) 0
theorem pw_pad (p : Bytes) : pw p = pv (padB p) := by
  unfold pw padB
  rw [pv_append, pv_zeros, List.length_replicate, Nat.add_zero]
theorem padB_len {p : Bytes} (h : p.length ≤ 7) : (padB p).length = 7 := by simp [padB]; omega

theorem pv_get (q : Bytes) {i : Nat} (hi : i < q.length) : pv q / 256 ^ (q.length - 1 - i) % 256 = (q.getD i 0).toNat := by
  have e : q = q.take (i + 1) ++ q.drop (i + 1) := (List.take_append_drop _ _).symm
  have hd : (q.drop (i + 1)).length = q.length - 1 - i := by simp; omega
  have hlt := pv_lt (q.drop (i + 1))
  have e2 : pv q = pv (q.take (i + 1)) * 256 ^ (q.length - 1 - i) + pv (q.drop (i + 1)) := by
    conv => lhs; rw [e]
    rw [pv_append, hd]
  rw [hd] at hlt
  have hpos : 0 < 256 ^ (q.length - 1 - i) := Nat.pow_pos (by omega)
  rw [e2, Nat.mul_comm, Nat.mul_add_div hpos, Nat.div_eq_of_lt hlt, Nat.add_zero, take_next q i 0 hi, pv_snoc]
  have := (q.getD i 0).toNat_lt
  omega

theorem byteI_nat (n i : Nat) : byteI n i = ((n / 256 ^ (6 - i) % 256 : Nat) : Int) := by
  unfold byteI
  have e : (2 : Int) ^ (8 * (6 - i)) = ((256 ^ (6 - i) : Nat) : Int) := by
    rw [show (256 : Nat) = 2 ^ 8 from rfl, ← Nat.pow_mul]; push_cast; rfl
  rw [e]
  have e2 : (n : Int).fdiv ((256 ^ (6 - i) : Nat) : Int) = ((n / 256 ^ (6 - i) : Nat) : Int) := by
    rw [Int.fdiv_eq_ediv_of_nonneg _ (Int.natCast_nonneg _)]; exact (Int.natCast_ediv _ _).symm
  rw [e2]
  simp [IntKind.wrap, IntKind.bits, IntKind.signed]

def natsI (p : Bytes) : List Int := p.map fun b => (b.toNat : Int)
theorem natsI_len (p : Bytes) : (natsI p).length = p.length := by simp [natsI]

theorem sevenI_pv {q : Bytes} (h : q.length = 7) : sevenI (pv q : Nat) = natsI q := by
  apply List.ext_getElem
  · simp [sevenI, natsI, h]
  intro i h1 h2
  have hi : i < q.length := by simpa [natsI] using h2
  simp only [sevenI, natsI, List.getElem_map, List.getElem_range]
  rw [byteI_nat]
  have := pv_get q hi
  rw [h] at this
  rw [show 6 - i = 7 - 1 - i by omega, this, List.getD_eq_getElem?_getD, List.getElem?_eq_getElem hi]
  rfl

theorem pv_lt7 {q : Bytes} (h : q.length = 7) : pv q < 72057594037927936 := by have := pv_lt q; rw [h] at this; exact this

theorem sevenI_inj {a b : Int} (ha : wMay a = true) (hb : wMay b = true) (h : sevenI a = sevenI b) : a = b := by
  simp only [wMay, Bool.and_eq_true, decide_eq_true_eq] at ha hb
  obtain ⟨m, rfl⟩ : ∃ m : Nat, a = m := ⟨a.toNat, by omega⟩
  obtain ⟨n, rfl⟩ : ∃ n : Nat, b = n := ⟨b.toNat, by omega⟩
  have hh : ∀ i, i < 7 → byteI m i = byteI n i := by
    intro i hi
    have := congrArg (fun l => l.getD i 0) h
    simpa [sevenI, List.getD_eq_getElem?_getD, hi] using this
  have h0 := hh 0 (by omega)
  have h1 := hh 1 (by omega)
  have h2 := hh 2 (by omega)
  have h3 := hh 3 (by omega)
  have h4 := hh 4 (by omega)
  have h5 := hh 5 (by omega)
  have h6 := hh 6 (by omega)
  simp only [byteI_nat, Nat.reduceSub, Nat.reducePow, Int.natCast_inj] at h0 h1 h2 h3 h4 h5 h6
  omega

theorem flatI_inj : ∀ {l l' : List Int}, l.all wMay = true → l'.all wMay = true → flatI l = flatI l' → l = l'
  | [], [], _, _, _ => rfl
  | [], b :: r, _, _, h => by have := congrArg List.length h; simp [flatI_len] at this
  | a :: r, [], _, _, h => by have := congrArg List.length h; simp [flatI_len] at this
  | a :: r, b :: r', ha, hb, h => by
    simp only [List.all_cons, Bool.and_eq_true] at ha hb
    have e1 : ∀ (x : Int) (l : List Int), flatI (x :: l) = sevenI x ++ flatI l := fun x l => by simp [flatI]
    rw [e1, e1] at h
    obtain ⟨h1, h2⟩ := List.append_inj h (by simp [sevenI])
    rw [sevenI_inj ha.1 hb.1 h1, flatI_inj ha.2 hb.2 h2]

theorem natsI_inj {p q : Bytes} (h : natsI p = natsI q) : p = q := by
  apply List.ext_getElem
  · have := congrArg List.length h; simpa [natsI] using this
  intro i h1 h2
  have := congrArg (fun l => l.getD i 0) h
  simp [natsI, List.getD_eq_getElem?_getD, h1, h2] at this
  exact UInt8.toNat_inj.1 (Int.natCast_inj.1 this)

theorem flatI_range {l : List Int} : ∀ b ∈ flatI l, 0 ≤ b ∧ b < 256 := by
  intro b hb
  simp only [flatI, List.mem_flatMap, sevenI, List.mem_map] at hb
  obtain ⟨w, _, i, _, rfl⟩ := hb
  exact byteI_range w i

theorem natsI_text {l : List Int} {n : Nat} : natsI (textS l n) = (flatI l).take n := by
  unfold natsI textS
  rw [List.map_map, Int.toNat_natCast]
  conv => rhs; rw [← List.map_id ((flatI l).take n)]
  apply List.map_congr_left
  intro b hb
  obtain ⟨h1, h2⟩ := flatI_range b (List.mem_of_mem_take hb)
  simp only [Function.comp, id]
  rw [UInt8.toNat_ofNat', Nat.mod_eq_of_lt (by omega)]
  omega

/-! ### A text's words -/
theorem pieceN_len (s : Bytes) (k : Nat) : (pieceN s k).length ≤ 7 := by unfold pieceN; simp; omega
theorem wordsOf_len (s : Bytes) : (wordsOf s).length = nPieces s := by simp [wordsOf]
theorem wordsOf_may (s : Bytes) : (wordsOf s).all wMay = true := by
  rw [List.all_eq_true]
  intro w hw
  simp only [wordsOf, List.mem_map] at hw
  obtain ⟨k, _, rfl⟩ := hw
  rw [pw_pad]
  have := pv_lt7 (padB_len (pieceN_len s k))
  simp [wMay]; omega

theorem wordsOf_cons {s : Bytes} (h : s ≠ []) : wordsOf s = (pw (s.take 7) : Int) :: wordsOf (s.drop 7) := by
  have hp : 0 < s.length := List.length_pos_iff.2 h
  apply List.ext_getElem
  · simp [wordsOf, nPieces]; omega
  intro i h1 h2
  simp only [wordsOf, List.getElem_map, List.getElem_range]
  cases i with
  | zero => simp [pieceN]
  | succ i =>
    simp only [List.getElem_cons_succ, List.getElem_map, List.getElem_range, pieceN, List.drop_drop]
    rw [show 7 * (i + 1) = 7 + 7 * i by omega]

theorem wordsOf_nil : wordsOf [] = [] := rfl

/-- as many bytes 0 as are lacking to whole sevens -/
theorem flatI_words : ∀ (n : Nat) (s : Bytes), s.length ≤ n → flatI (wordsOf s) = natsI s ++ List.replicate (7 * nPieces s - s.length) 0
  | n, [], _ => rfl
  | 0, b :: r, h => by simp at h
  | n + 1, b :: r, h => by
    rw [wordsOf_cons (by simp)]
    generalize hs : b :: r = s at *
    have hp : 0 < s.length := by rw [← hs]; simp
    have e1 : ∀ (x : Int) (l : List Int), flatI (x :: l) = sevenI x ++ flatI l := fun x l => by simp [flatI]
    have htl : (s.take 7).length ≤ 7 := by simp; omega
    rw [e1, pw_pad, sevenI_pv (padB_len htl), flatI_words n (s.drop 7) (by simp; omega)]
    unfold padB
    simp only [natsI, List.map_append, List.append_assoc, List.map_replicate, List.length_take, List.length_drop]
    rcases Nat.lt_or_ge s.length 7 with h7 | h7
    · have h1 : s.take 7 = s := List.take_of_length_le (by omega)
      have h2 : s.drop 7 = [] := List.drop_eq_nil_of_le (by omega)
      rw [h1, h2]
      have h3 : nPieces s = 1 := by unfold nPieces; omega
      rw [h3]
      simp [nPieces, Nat.min_eq_right (Nat.le_of_lt h7)]
    · have h3 : nPieces (s.drop 7) = nPieces s - 1 := by unfold nPieces; simp; omega
      have h4 : 1 ≤ nPieces s := by unfold nPieces; omega
      rw [Nat.min_eq_left h7, h3]
      have h5 : 7 * (nPieces s - 1) - (s.length - 7) = 7 * nPieces s - s.length := by omega
      rw [h5]
      simp only [List.map_take, List.map_drop, Nat.sub_self, List.replicate_zero, List.nil_append]
      rw [← List.append_assoc, List.take_append_drop]

theorem text_words (s : Bytes) (h : s.length < 9223372036854775808) : textB (wordsOf s) s.length = true ∧ textS (wordsOf s) s.length = s := by
  have hf := flatI_words s.length s (Nat.le_refl _)
  have ht : (flatI (wordsOf s)).take s.length = natsI s := by rw [hf, List.take_left' (natsI_len s)]
  refine ⟨?_, natsI_inj (by rw [natsI_text, ht])⟩
  unfold textB
  rw [wordsOf_may, wordsOf_len, lenT_nat _ (by omega), Int.toNat_natCast, hf, List.drop_left' (natsI_len s)]
  have : ¬ ((s.length : Int) < 0) := by omega
  simp only [this, decide_false, Bool.not_false, Bool.true_and, nPieces, decide_true, Bool.and_true]
  rw [List.all_eq_true]
  intro b hb
  rw [List.eq_of_mem_replicate hb]; rfl

theorem textB_parts {l : List Int} {n : Int} (h : textB l n = true) : 0 ≤ n ∧ (l.length : Int) = lenT n ∧ l.all wMay = true ∧ ∀ b ∈ (flatI l).drop n.toNat, b = 0 := by
  simp only [textB, Bool.and_eq_true, decide_eq_true_eq, Bool.not_eq_true', decide_eq_false_iff_not] at h
  obtain ⟨⟨⟨h1, h2⟩, h3⟩, h4⟩ := h
  exact ⟨by omega, h2, h3, fun b hb => by simpa using List.all_eq_true.1 h4 b hb⟩

/-- no others are turned to it -/
theorem text_only {s : Bytes} {l : List Int} (h : s.length < 9223372036854775808) (hB : textB l s.length = true) : textS l s.length = s ↔ l = wordsOf s := by
  constructor
  · intro hs
    obtain ⟨_, h2, h3, h4⟩ := textB_parts hB
    refine flatI_inj h3 (wordsOf_may s) ?_
    rw [Int.toNat_natCast] at h4
    rw [lenT_nat _ (by omega)] at h2
    rw [flatI_words s.length s (Nat.le_refl _), ← List.take_append_drop s.length (flatI l), ← natsI_text, hs]
    congr 1
    refine List.eq_replicate_iff.2 ⟨?_, h4⟩
    rw [List.length_drop, flatI_len]
    unfold nPieces; omega
  · rintro rfl
    exact (text_words s h).2
end Lam
