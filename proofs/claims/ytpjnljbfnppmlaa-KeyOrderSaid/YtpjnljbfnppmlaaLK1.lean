/- What functions of the program come to, each proved from its code. -/
import Derived.Test.YtpjnljbfnppmlaaLG2
import Derived.Test.YtpjnljbfnppmlaaLS2
namespace Lam
open Go Go.Proofs
set_option linter.unusedVariables false
set_option linter.unnecessarySimpa false
set_option linter.unusedSimpArgs false

def pv (p : Bytes) : Nat := p.foldl (fun a b => a * 256 + b.toNat) 0
def pw (p : Bytes) : Nat := pv p * 256 ^ (7 - p.length)
def pieceN (s : Bytes) (k : Nat) : Bytes := (s.drop (7 * k)).take 7
def nPieces (s : Bytes) : Nat := (s.length + 6) / 7
def wordsOf (s : Bytes) : List Int := (List.range (nPieces s)).map fun k => (pw (pieceN s k) : Int)

theorem nat_or_step (x b m : Nat) (hb : b < 256) : x * 2 ^ (m + 8) ||| b * 2 ^ m = (x * 256 + b) * 2 ^ m := by
  have e1 : x * 2 ^ (m + 8) = (x <<< 8) <<< m := by rw [Nat.shiftLeft_eq, Nat.shiftLeft_eq, Nat.pow_add, Nat.mul_assoc, Nat.mul_comm (2 ^ m)]
  have e2 : b * 2 ^ m = b <<< m := by rw [Nat.shiftLeft_eq]
  have e3 : (x * 256 + b) * 2 ^ m = (x <<< 8 + b) <<< m := by rw [Nat.shiftLeft_eq, Nat.shiftLeft_eq]
  rw [e1, e2, e3, ← Nat.shiftLeft_or_distrib, Nat.shiftLeft_add_eq_or_of_lt (by omega)]

theorem orI_nat {a b : Nat} (h : a ||| b < 2 ^ 63) (ha : a < 2 ^ 63) (hb : b < 2 ^ 63) : orI .i64 a b = ((a ||| b : Nat) : Int) := by
  have e : (BitVec.ofInt 64 (a : Int) ||| BitVec.ofInt 64 (b : Int)).toNat = a ||| b := by
    rw [BitVec.toNat_or, BitVec.ofInt_natCast, BitVec.ofInt_natCast, BitVec.toNat_ofNat, BitVec.toNat_ofNat, Nat.mod_eq_of_lt (by omega), Nat.mod_eq_of_lt (by omega)]
  show IntKind.i64.wrap ((BitVec.ofInt 64 (a : Int) ||| BitVec.ofInt 64 (b : Int)).toNat) = _
  rw [e]
  exact w64 (by omega) (by omega)

theorem pv_snoc (p : Bytes) (b : UInt8) : pv (p ++ [b]) = pv p * 256 + b.toNat := by simp [pv]
theorem pv_lt : ∀ (p : Bytes), pv p < 256 ^ p.length := by
  intro p
  have key : ∀ (p : Bytes) (a n : Nat), a < 256 ^ n → p.foldl (fun a b => a * 256 + b.toNat) a < 256 ^ (n + p.length) := by
    intro p
    induction p with
    | nil => intro a n h; simpa using h
    | cons b r ih =>
      intro a n h
      have hb : b.toNat < 256 := b.toNat_lt
      have := ih (a * 256 + b.toNat) (n + 1) (by rw [Nat.pow_succ]; omega)
      simpa [Nat.add_assoc, Nat.add_comm 1] using this
  have := key p 0 0 (by simp)
  simpa [pv] using this

/-- a byte more -/
theorem pv_step (p : Bytes) {j : Nat} (hp : p.length ≤ 7) (hj : j < p.length) :
    orI .i64 ((pv (p.take j) * 256 ^ (7 - j) : Nat) : Int) (IntKind.i64.wrap (IntKind.i64.wrap ((p.getD j 0).toNat : Int) * 2 ^ min (IntKind.i64.wrap (8 * IntKind.i64.wrap (6 - (j : Int)))).toNat 64)) = ((pv (p.take (j + 1)) * 256 ^ (7 - (j + 1)) : Nat) : Int) := by
  have hb : (p.getD j 0).toNat < 256 := (p.getD j 0).toNat_lt
  have hx : pv (p.take j) < 256 ^ j := by have := pv_lt (p.take j); rwa [List.length_take, Nat.min_eq_left (by omega)] at this
  rw [take_next p j 0 hj, pv_snoc]
  generalize (p.getD j 0).toNat = b at *
  generalize pv (p.take j) = x at *
  have e1 : IntKind.i64.wrap (6 - (j : Int)) = ((6 - j : Nat) : Int) := by rw [w64 (by omega) (by omega)]; omega
  have e2 : IntKind.i64.wrap (8 * ((6 - j : Nat) : Int)) = ((8 * (6 - j) : Nat) : Int) := by rw [w64 (by omega) (by omega)]; omega
  have e3 : IntKind.i64.wrap ((b : Nat) : Int) = (b : Int) := w64 (by omega) (by omega)
  have hm : 8 * (6 - j) ≤ 48 := by omega
  have e4 : (256 : Nat) ^ (7 - j) = 2 ^ (8 * (6 - j) + 8) := by rw [show (256 : Nat) = 2 ^ 8 from rfl, ← Nat.pow_mul]; congr 1; omega
  have e5 : (256 : Nat) ^ (7 - (j + 1)) = 2 ^ (8 * (6 - j)) := by rw [show (256 : Nat) = 2 ^ 8 from rfl, ← Nat.pow_mul]; congr 1; omega
  rw [e1, e2, e3, Int.toNat_natCast, Nat.min_eq_left (by omega), e4, e5]
  have hpm : (2 : Nat) ^ (8 * (6 - j)) ≤ 2 ^ 48 := Nat.pow_le_pow_right (by omega) hm
  have hbm : b * 2 ^ (8 * (6 - j)) < 2 ^ 63 := by
    have : b * 2 ^ (8 * (6 - j)) ≤ 255 * 2 ^ 48 := Nat.mul_le_mul (by omega) hpm
    omega
  have ec : ((b : Int) * 2 ^ (8 * (6 - j))) = ((b * 2 ^ (8 * (6 - j)) : Nat) : Int) := by push_cast; rfl
  rw [ec, w64 (by omega) (by omega)]
  have hor := nat_or_step x b (8 * (6 - j)) hb
  have hall : (x * 256 + b) * 2 ^ (8 * (6 - j)) < 2 ^ 63 := by
    have h1 : x * 256 + b < 256 ^ (j + 1) := by rw [Nat.pow_succ]; omega
    have h2 : (256 : Nat) ^ (j + 1) * 2 ^ (8 * (6 - j)) = 2 ^ 56 := by
      rw [show (256 : Nat) = 2 ^ 8 from rfl, ← Nat.pow_mul, ← Nat.pow_add]; congr 1; omega
    have h3 : (x * 256 + b) * 2 ^ (8 * (6 - j)) ≤ 256 ^ (j + 1) * 2 ^ (8 * (6 - j)) := Nat.mul_le_mul_right _ (by omega)
    omega
  have hle : x * 2 ^ (8 * (6 - j) + 8) ≤ x * 2 ^ (8 * (6 - j) + 8) ||| b * 2 ^ (8 * (6 - j)) := Nat.left_le_or
  rw [orI_nat (by rw [hor]; exact hall) (by omega) hbm, hor]

theorem key_Words_L1 (c : Ctx) (id : Nat) (r : Loop) (J : AV → AV → List AObj → Prop) (K : AOut → List AObj → Prop) (p : Bytes) (hp : p.length ≤ 7) (v k : Nat) (s : Bytes) (xs : List Int)
    (hJ : J (.ptr 0 []) (.int .i64 (pw p : Nat)) [.box (.sref false 2 v 0 k), .box (.str s), .row .own v (.ints .i64 xs), .lp .busy none r]) :
    key_Words.L1 c id r J K [.int .i64 0, .int .i64 0] [.box (.sref false 2 v 0 k), .box (.str s), .row .own v (.ints .i64 xs), .lp .busy none r] 4 (.ptr 0 []) (.str p) (.int .i64 p.length) := by
  unfold key_Words.L1
  refine ⟨fun m lv h' => ∃ j : Nat, j + m = p.length ∧ lv = [.int .i64 (pv (p.take j) * 256 ^ (7 - j) : Nat), .int .i64 j] ∧ h' = [.box (.sref false 2 v 0 k), .box (.str s), .row .own v (.ints .i64 xs), .lp .busy none r],
    ⟨p.length, 0, by omega, by simp [pv], rfl⟩, ?_⟩
  rintro m h' t4 t11 ⟨j, hj, hlv, rfl⟩
  simp only [List.cons.injEq, and_true] at hlv
  obtain ⟨rfl, rfl⟩ := hlv
  simp only [go_sem, Nat.reduceEqDiff, Nat.reduceLT, Nat.reduceAdd, Nat.reduceSub, Nat.reduceLeDiff, List.reduceReplicate, Int.reduceToNat]
  refine ⟨fun hlt => ?_, fun hge => ?_⟩
  · have hjp : j < p.length := by omega
    have e1 : IntKind.i64.wrap (6 - (j : Int)) = 6 - j := w64 (by omega) (by omega)
    refine ⟨by omega, by rw [e1, w64 (by omega) (by omega)]; omega, m - 1, by omega, j + 1, by omega, ?_⟩
    rw [pv_step p hp hjp, w64 (by omega) (by omega)]
    rfl
  · have : j = p.length := by omega
    subst this
    rw [List.take_length] at *
    exact hJ

theorem getD_words (s : Bytes) {k : Nat} (hk : k < nPieces s) : (wordsOf s).getD k 0 = (pw (pieceN s k) : Int) := by
  simp [wordsOf, List.getD_eq_getElem?_getD, hk]

def key_pieces_1.I : Con → Con := fun Y args h K => match args with
  | [.fn (.yield l) [] [], a0] => key_pieces_1.H ((ctx [] [] key_pieces_1.loops).withY l Y) (.fn (.yield l) [] []) a0 h K
  | _ => False
theorem key_pieces_1.spec : ISpec Try.prog 14 key_pieces_1.I := by
  refine ISpec.of (ctx_ok (F := []) (S := []) (by simp) (by simp) key_pieces_1.loops).toOkI key_pieces_1.at key_pieces_1.nm key_pieces_1.bd ?_
  intro Yc l cap h K hC
  unfold key_pieces_1.I at hC
  split at hC
  · rename_i e
    simp only [List.cons.injEq, AV.fn.injEq, Fn.yield.injEq, and_true, true_and] at e
    obtain ⟨rfl, rfl⟩ := e
    rw [key_pieces_1.eq]; exact hC
  · exact hC.elim
def key_pieces.K : Con := fun args h K => match args with
  | [a0] => key_pieces.H (ctx [] [] key_pieces.loops) a0 h K
  | _ => False
theorem key_pieces.spec : SSpec Try.prog 13 key_pieces.K := by
  refine SSpec.of (ctx_ok (F := []) (S := []) (by simp) (by simp) key_pieces.loops) key_pieces.at key_pieces.nm key_pieces.bd ?_
  intro args h K hC
  unfold key_pieces.K at hC
  split at hC
  · rw [key_pieces.eq]; exact hC
  · exact hC.elim
def key_Words.C : Contract
  | [.str s] => some (false, pD (roomy s.length) (.sl false (.ints .i64 (wordsOf s))))
  | _ => none
theorem key_Words.spec : FSpec Try.prog 9 key_Words.C := by
  refine FSpec.of (ctxI_ok (F := []) (S := [(13, key_pieces.K)]) (Is := [(14, key_pieces_1.I)]) (by simp) (by simpa using key_pieces.spec) (by simpa using key_pieces_1.spec) key_Words.loops) key_Words.at key_Words.nm key_Words.bd ?_
  intro vs b S v news e hS
  unfold key_Words.C at e
  split at e
  rotate_left
  · cases e
  cases e
  rw [key_Words.eq]
  unfold key_Words.H
  simp only [go_sem, Nat.reduceEqDiff, Nat.reduceLT, Nat.reduceAdd, Nat.reduceSub, Nat.reduceLeDiff, List.reduceReplicate, Int.reduceToNat, key_pieces.K, key_pieces.H, key_pieces_1.I, key_pieces_1.H, joinW_eq]
  rename_i s
  unfold roomy at hS
  intro l r
  unfold key_pieces_1.L1
  refine ⟨fun m lv h' => ∃ k v : Nat, k + m = nPieces s ∧ h' = [.box (.sref false 2 v 0 k), .box (.str (s.drop (7*k))), .row .own v (.ints .i64 ((wordsOf s).take k)), .lp .ready none r], ⟨nPieces s, 0, 0, by omega, by simp⟩, ?_⟩
  rintro m h' ⟨k, v, hk, rfl⟩
  have hwl : (wordsOf s).length = nPieces s := by simp [wordsOf]
  have hnp : nPieces s = (s.length + 6) / 7 := rfl
  have hacc : ((wordsOf s).take k).length = k := by simp; omega
  simp only [go_sem, Nat.reduceEqDiff, Nat.reduceLT, Nat.reduceAdd, Nat.reduceSub, Nat.reduceLeDiff, List.reduceReplicate, Int.reduceToNat, List.length_drop]
  refine ⟨fun hlt => ?_, fun hge => ?_⟩
  · have hn : (if ((s.length - 7 * k : Nat) : Int) < 7 then ((s.length - 7 * k : Nat) : Int) else 7) = ((min 7 (s.length - 7 * k) : Nat) : Int) := by split <;> omega
    simp only [hn, Int.toNat_natCast]
    have hpc : (s.drop (7 * k)).take (min 7 (s.length - 7 * k)) = pieceN s k := by
      unfold pieceN
      rcases Nat.lt_or_ge (s.length - 7 * k) 7 with h | h
      · rw [Nat.min_eq_right (by omega), List.take_of_length_le (by simp), List.take_of_length_le (by simp; omega)]
      · rw [Nat.min_eq_left (by omega)]
    rw [hpc]
    have hpl : (pieceN s k).length ≤ 7 := by unfold pieceN; simp; omega
    refine ⟨by omega, key_Words_L1 _ _ _ _ _ _ hpl _ _ _ _ ?_⟩
    simp only [go_sem, Nat.reduceEqDiff, Nat.reduceLT, Nat.reduceAdd, Nat.reduceSub, Nat.reduceLeDiff, List.reduceReplicate, Int.reduceToNat, hacc]
    have hkn : k < nPieces s := by omega
    have hnext : (wordsOf s).take (k + 1) = (wordsOf s).take k ++ [(pw (pieceN s k) : Int)] := by
      rw [take_next _ k 0 (by omega), getD_words s hkn]
    have hd : (s.drop (7 * k)).drop (min 7 (s.length - 7 * k)) = s.drop (7 * (k + 1)) := by
      rw [List.drop_drop]
      rcases Nat.lt_or_ge (s.length - 7 * k) 7 with h | h
      · rw [List.drop_eq_nil_of_le (by omega), List.drop_eq_nil_of_le (by omega)]
      · congr 1; omega
    have hl1 : ((wordsOf s).take (k + 1)).length = k + 1 := by simp; omega
    rw [← hnext, hd, hl1]
    refine ⟨by unfold roomy; omega, by simp; omega, m - 1, by omega, k + 1, v + 1, by omega, rfl⟩
  · have : k = nPieces s := by omega
    subst this
    rw [List.take_of_length_le (by omega)]
    refine post_val ?_ rfl
    have := hacc
    rw [List.take_of_length_le (by omega)] at this
    simp only [go_sem, Nat.reduceEqDiff, Nat.reduceLT, Nat.reduceAdd, Nat.reduceSub, Nat.reduceLeDiff, List.reduceReplicate, Int.reduceToNat, List.take_of_length_le (Nat.le_of_eq hwl)]
end Lam
