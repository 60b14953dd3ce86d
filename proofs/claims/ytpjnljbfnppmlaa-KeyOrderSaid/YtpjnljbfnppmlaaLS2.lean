/- More rules. -/
import Derived.Test.YtpjnljbfnppmlaaLS
import Derived.Test.YtpjnljbfnppmlaaLR34
set_option linter.unusedVariables false
set_option linter.unusedSimpArgs false
set_option linter.unnecessarySimpa false
set_option linter.unusedSectionVars false
namespace Lam
open Go
@[go_sem] theorem lookF_nil (f : FuncId) (vs : List AV) : lookF [] f vs = none := (rfl)
@[go_sem] theorem lookI_nil (f : FuncId) (Y : Con) (a : List AV) (h : List AObj) (K' : AOut → List AObj → Prop) : lookI [] f Y a h K' = False := (rfl)
@[go_sem] theorem lookI_cons (f g : FuncId) (C : Con → Con) (r : List (FuncId × (Con → Con))) : lookI ((g, C) :: r) f = if f = g then C else lookI r f := by
  by_cases h : f = g
  · subst h; simp [lookI]
  · have : Nat.beq f g = false := by rw [Bool.eq_false_iff]; intro e; exact h (Nat.eq_of_beq_eq_true e)
    simp [lookI, this, h]
@[go_sem] theorem lookF_cons (g f : FuncId) (C : Contract) (r : List (FuncId × Contract)) : lookF ((g, C) :: r) f = if f = g then C else lookF r f := by
  by_cases h : f = g
  · subst h; simp [lookF]
  · have : Nat.beq f g = false := by rw [Bool.eq_false_iff]; intro e; exact h (Nat.eq_of_beq_eq_true e)
    simp [lookF, this, h]
@[go_sem] theorem lookS_nil (f : FuncId) (vs : List AV) (h : List AObj) (K : AOut → List AObj → Prop) : lookS [] f vs h K = False := (rfl)
@[go_sem] theorem lookS_cons (g f : FuncId) (C : Con) (r : List (FuncId × Con)) : lookS ((g, C) :: r) f = if f = g then C else lookS r f := by
  by_cases h : f = g
  · subst h; simp [lookS]
  · have : Nat.beq f g = false := by rw [Bool.eq_false_iff]; intro e; exact h (Nat.eq_of_beq_eq_true e)
    simp [lookS, this, h]
theorem w64 {n : Int} (h1 : -9223372036854775808 ≤ n) (h2 : n < 9223372036854775808) : IntKind.i64.wrap n = n := by rw [IntKind.wrap_i64]; omega
theorem u8_range (n : Int) : 0 ≤ IntKind.u8.wrap n ∧ IntKind.u8.wrap n < 256 := by simp [IntKind.wrap, IntKind.bits, IntKind.signed]; omega
theorem u32_range (n : Int) : 0 ≤ IntKind.u32.wrap n ∧ IntKind.u32.wrap n < 4294967296 := by simp [IntKind.wrap, IntKind.bits, IntKind.signed]; omega
theorem u64_range (n : Int) : 0 ≤ IntKind.u64.wrap n ∧ IntKind.u64.wrap n < 18446744073709551616 := by simp [IntKind.wrap, IntKind.bits, IntKind.signed]; omega
theorem u8_id {n : Int} (h1 : 0 ≤ n) (h2 : n < 256) : IntKind.u8.wrap n = n := by simp [IntKind.wrap, IntKind.bits, IntKind.signed]; omega
theorem u32_id {n : Int} (h1 : 0 ≤ n) (h2 : n < 4294967296) : IntKind.u32.wrap n = n := by simp [IntKind.wrap, IntKind.bits, IntKind.signed]; omega
theorem u64_id {n : Int} (h1 : 0 ≤ n) (h2 : n < 18446744073709551616) : IntKind.u64.wrap n = n := by simp [IntKind.wrap, IntKind.bits, IntKind.signed]; omega
theorem i64_range (n : Int) : -9223372036854775808 ≤ IntKind.i64.wrap n ∧ IntKind.i64.wrap n < 9223372036854775808 := by rw [IntKind.wrap_i64]; omega

abbrev J2 := AV → AV → List AObj → Prop
@[congr] theorem joinW_congr {α : Type} {A A' : α → Prop} {k : α} (e : ∀ J, A J = A' J) : joinW A k = joinW A' k := by unfold joinW; exact e k
theorem joinW_eq {α : Type} (A : α → Prop) (k : α) : joinW A k = A k := (rfl)
section
variable (p q : Bool) (S : Prop) (h : List AObj) (F : AV → List AObj → Prop)
@[go_sem] theorem join_and : joinW (fun J : J2 => guardW (.bool p) true (J (.bool true) (.bool q) h) (J (.bool false) .und h)) (fun t v h' => runD (pickD t v (.bool false)) h' F) = F (.bool (p && q)) h := by
  cases p <;> simp [joinW, guardW, pickD, pD, runD]
@[go_sem] theorem join_and_s : joinW (fun J : J2 => guardW (.bool p) true (S ∧ J (.bool true) (.bool q) h) (J (.bool false) .und h)) (fun t v h' => runD (pickD t v (.bool false)) h' F) = ((p = true → S) ∧ F (.bool (p && q)) h) := by
  cases p <;> simp [joinW, guardW, pickD, pD, runD]
@[go_sem] theorem join_or : joinW (fun J : J2 => guardW (.bool p) false (J (.bool false) (.bool q) h) (J (.bool true) .und h)) (fun t v h' => runD (pickD t (.bool true) v) h' F) = F (.bool (p || q)) h := by
  cases p <;> simp [joinW, guardW, pickD, pD, runD]
@[go_sem] theorem join_or_s : joinW (fun J : J2 => guardW (.bool p) false (S ∧ J (.bool false) (.bool q) h) (J (.bool true) .und h)) (fun t v h' => runD (pickD t (.bool true) v) h' F) = ((p = false → S) ∧ F (.bool (p || q)) h) := by
  cases p <;> simp [joinW, guardW, pickD, pD, runD]
variable (S2 S3 S4 S5 : Prop)
@[go_sem] theorem join_and_s2 : joinW (fun J : J2 => guardW (.bool p) true (S ∧ S2 ∧ J (.bool true) (.bool q) h) (J (.bool false) .und h)) (fun t v h' => runD (pickD t v (.bool false)) h' F) = ((p = true → S ∧ S2) ∧ F (.bool (p && q)) h) := by
  cases p <;> simp [joinW, guardW, pickD, pD, runD, and_assoc]
@[go_sem] theorem join_or_s2 : joinW (fun J : J2 => guardW (.bool p) false (S ∧ S2 ∧ J (.bool false) (.bool q) h) (J (.bool true) .und h)) (fun t v h' => runD (pickD t (.bool true) v) h' F) = ((p = false → S ∧ S2) ∧ F (.bool (p || q)) h) := by
  cases p <;> simp [joinW, guardW, pickD, pD, runD, and_assoc]
@[go_sem] theorem join_and_s3 : joinW (fun J : J2 => guardW (.bool p) true (S ∧ S2 ∧ S3 ∧ J (.bool true) (.bool q) h) (J (.bool false) .und h)) (fun t v h' => runD (pickD t v (.bool false)) h' F) = ((p = true → S ∧ S2 ∧ S3) ∧ F (.bool (p && q)) h) := by
  cases p <;> simp [joinW, guardW, pickD, pD, runD, and_assoc]
@[go_sem] theorem join_or_s3 : joinW (fun J : J2 => guardW (.bool p) false (S ∧ S2 ∧ S3 ∧ J (.bool false) (.bool q) h) (J (.bool true) .und h)) (fun t v h' => runD (pickD t (.bool true) v) h' F) = ((p = false → S ∧ S2 ∧ S3) ∧ F (.bool (p || q)) h) := by
  cases p <;> simp [joinW, guardW, pickD, pD, runD, and_assoc]
@[go_sem] theorem join_and_s4 : joinW (fun J : J2 => guardW (.bool p) true (S ∧ S2 ∧ S3 ∧ S4 ∧ J (.bool true) (.bool q) h) (J (.bool false) .und h)) (fun t v h' => runD (pickD t v (.bool false)) h' F) = ((p = true → S ∧ S2 ∧ S3 ∧ S4) ∧ F (.bool (p && q)) h) := by
  cases p <;> simp [joinW, guardW, pickD, pD, runD, and_assoc]
@[go_sem] theorem join_or_s4 : joinW (fun J : J2 => guardW (.bool p) false (S ∧ S2 ∧ S3 ∧ S4 ∧ J (.bool false) (.bool q) h) (J (.bool true) .und h)) (fun t v h' => runD (pickD t (.bool true) v) h' F) = ((p = false → S ∧ S2 ∧ S3 ∧ S4) ∧ F (.bool (p || q)) h) := by
  cases p <;> simp [joinW, guardW, pickD, pD, runD, and_assoc]
@[go_sem] theorem join_and_s5 : joinW (fun J : J2 => guardW (.bool p) true (S ∧ S2 ∧ S3 ∧ S4 ∧ S5 ∧ J (.bool true) (.bool q) h) (J (.bool false) .und h)) (fun t v h' => runD (pickD t v (.bool false)) h' F) = ((p = true → S ∧ S2 ∧ S3 ∧ S4 ∧ S5) ∧ F (.bool (p && q)) h) := by
  cases p <;> simp [joinW, guardW, pickD, pD, runD, and_assoc]
@[go_sem] theorem join_or_s5 : joinW (fun J : J2 => guardW (.bool p) false (S ∧ S2 ∧ S3 ∧ S4 ∧ S5 ∧ J (.bool false) (.bool q) h) (J (.bool true) .und h)) (fun t v h' => runD (pickD t (.bool true) v) h' F) = ((p = false → S ∧ S2 ∧ S3 ∧ S4 ∧ S5) ∧ F (.bool (p || q)) h) := by
  cases p <;> simp [joinW, guardW, pickD, pD, runD, and_assoc]
end
theorem take_next {α : Type} (l : List α) (k : Nat) (d : α) (h : k < l.length) : l.take (k + 1) = l.take k ++ [l.getD k d] := by
  rw [List.take_add_one, List.getD_eq_getElem?_getD, List.getElem?_eq_getElem h]; rfl
theorem getD_mem {α : Type} (l : List α) (k : Nat) (d : α) (h : k < l.length) : l.getD k d ∈ l := by
  rw [List.getD_eq_getElem?_getD, List.getElem?_eq_getElem h]; exact List.getElem_mem h
theorem tdiv16 (n : Nat) : (n : Int).tdiv 16 = ((n / 16 : Nat) : Int) := rfl
theorem tdiv8 (n : Nat) : (n : Int).tdiv 8 = ((n / 8 : Nat) : Int) := rfl
attribute [go_sem] Bool.true_or Bool.false_or Bool.or_false Bool.or_true Bool.and_false Bool.false_and beq_self_eq_true
theorem wf_u8 {n : Int} (h : (Lit.int .u8 n).wf = true) : 0 ≤ n ∧ n < 256 := by
  simp [Lit.wf, IntKind.min, IntKind.max, IntKind.signed, IntKind.bits] at h; omega
theorem wf_64 {n : Int} (h : (Lit.int .i64 n).wf = true) : -9223372036854775808 ≤ n ∧ n < 9223372036854775808 := by
  simp [Lit.wf, IntKind.min, IntKind.max, IntKind.signed, IntKind.bits] at h; omega
end Lam
