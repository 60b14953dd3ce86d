/- The tables of types: what W is told of them, and what that says of the model's. -/
import Derived.Test.YtpjnljbfnppmlaaLR1
import Derived.Laws.CopyRow
import Derived.Laws.Rows
import Derived.Laws.Append
import Derived.Laws.AppendOwn
import Derived.Laws.CopyOwn
import Derived.Laws.StructEq
import Derived.Laws.Slices
set_option linter.unusedVariables false
set_option linter.unusedSimpArgs false
set_option linter.unnecessarySimpa false
set_option linter.unusedSectionVars false
namespace Lam
open Go

/-- an element as a type -/
def LK.ty : LK → TyD
  | .int k => .int k
  | .bool => .bool
  | .str => .str
  | .pend => .strct [.int .i64, .int .i64, .bool]
  | .mic => .strct [.int .i64, .int .i64, .int .i64]
  | .rcd => .strct [.int .i64, .str, .str, .int .i64]
  | .pair => .strct [.str, .str]
  | .slot => .strct [.int .i64, .int .i64]

theorem LK.ty_size (e : LK) : e.ty.size = e.size := by cases e <;> rfl

/-- n times -/
def timesO (f : List Value → Option (List Value)) : Nat → List Value → Option (List Value)
  | 0, l => some l
  | n + 1, l => match f l with
    | some r => timesO f n r
    | none => none

def elZero : LK → List Value → Option (List Value)
  | .int k, .int k' n :: r => if k = k' ∧ n = 0 then some r else none
  | .bool, .bool b :: r => if b = false then some r else none
  | .str, .string s :: r => if s.size = 0 then some r else none
  | .pend, .int .i64 0 :: .int .i64 0 :: .bool false :: r => some r
  | .mic, .int .i64 0 :: .int .i64 0 :: .int .i64 0 :: r => some r
  | .rcd, .int .i64 0 :: .string s :: .string s' :: .int .i64 0 :: r => if s.size = 0 ∧ s'.size = 0 then some r else none
  | .pair, .string s :: .string s' :: r => if s.size = 0 ∧ s'.size = 0 then some r else none
  | .slot, .int .i64 0 :: .int .i64 0 :: r => some r
  | _, _ => none

def zeroV : TyD → Value → Bool
  | .int k, .int k' n => decide (k = k' ∧ n = 0)
  | .bool, .bool b => !b
  | .str, .string s => decide (s.size = 0)
  | .slice _, .slice a n c => a.isNone && decide (n = 0) && decide (c = 0)
  | .ptr, .pointer a => a.isNone
  | .map _, .map a => a.isNone
  | .func, .nilFunc => true
  | .iface, .nilIface => true
  | .other, v => v.oneCell'
  | _, _ => false

def headO (d : TyD) : List Value → Option (List Value)
  | [] => none
  | v :: l => match zeroV d v with
    | true => some l
    | false => none

mutual
def isZero : TyD → List Value → Option (List Value)
  | .arr n e, l => timesO (elZero e) n l
  | .strct fs, l => isZeros fs l
  | .int k, l => headO (.int k) l
  | .bool, l => headO .bool l
  | .str, l => headO .str l
  | .slice e, l => headO (.slice e) l
  | .ptr, l => headO .ptr l
  | .map m, l => headO (.map m) l
  | .func, l => headO .func l
  | .iface, l => headO .iface l
  | .other, l => headO .other l
  | .tup _, _ => none
def isZeros : List TyD → List Value → Option (List Value)
  | [], l => some l
  | d :: ds, l => match isZero d l with
    | some r => isZeros ds r
    | none => none
end

theorem bstr_nil {s : ByteArray} (h : s.size = 0) : s = bstr [] := by
  cases s with | mk d => simp [ByteArray.size] at h; simp [bstr, h]

theorem elZero_spec {e : LK} {l r : List Value} (h : elZero e l = some r) : l = (e.zeros 1).cell 0 ++ r := by
  unfold elZero at h
  split at h
  · split at h
    · rename_i hh; obtain ⟨rfl, rfl⟩ := hh; cases h; rfl
    · cases h
  · split at h
    · rename_i hh; subst hh; cases h; rfl
    · cases h
  · split at h
    · rename_i hh; cases h; rw [bstr_nil hh]; rfl
    · cases h
  · cases h; rfl
  · cases h; rfl
  · split at h
    · rename_i hh; cases h; rw [bstr_nil hh.1, bstr_nil hh.2]; rfl
    · cases h
  · split at h
    · rename_i hh; cases h; rw [bstr_nil hh.1, bstr_nil hh.2]; rfl
    · cases h
  · cases h; rfl
  · cases h

theorem zeros_cell (e : LK) {n i : Nat} (hi : i < n) : (e.zeros n).cell i = (e.zeros 1).cell 0 := by
  cases e <;> simp [LK.zeros, Lst.cell, List.getD, hi]

theorem zeros_len (e : LK) (n : Nat) : (e.zeros n).len = n := by cases e <;> simp [LK.zeros, Lst.len]
theorem zeros_kind (e : LK) (n : Nat) : (e.zeros n).kind = e := by cases e <;> simp [LK.zeros, Lst.kind]

theorem zeros_flat (e : LK) (n : Nat) : (e.zeros n).flat = (List.replicate n ((e.zeros 1).cell 0)).flatten := by
  unfold Lst.flat
  rw [zeros_len, List.flatMap_def]
  congr 1
  apply List.ext_getElem
  · simp
  · intro i h1 h2
    simp at h1
    simp [zeros_cell e h1]

theorem timesO_spec {e : LK} : ∀ {n : Nat} {l r : List Value}, timesO (elZero e) n l = some r → l = (List.replicate n ((e.zeros 1).cell 0)).flatten ++ r
  | 0, l, r, h => by simp [timesO] at h; simp [h]
  | n + 1, l, r, h => by
    simp only [timesO] at h
    cases h1 : elZero e l with
    | none => simp [h1] at h
    | some x =>
      simp only [h1] at h
      rw [elZero_spec h1, timesO_spec h]
      simp [List.replicate_succ]

theorem zeroV_spec (X : Cx) {d : TyD} {v : Value} (h : zeroV d v = true) : VC X d.zero [v] := by
  cases d <;> cases v <;> simp [zeroV, Value.oneCell'] at h
  all_goals first
    | exact ⟨_, rfl, rfl⟩
    | exact ⟨_, rfl, trivial⟩
    | (obtain rfl := h; exact ⟨_, rfl, rfl⟩)
    | (obtain ⟨rfl, rfl⟩ := h; exact ⟨_, rfl, rfl⟩)
    | (subst h; exact ⟨_, rfl, rfl⟩)
    | exact ⟨_, rfl, rfl⟩
    | (refine ⟨_, rfl, ?_⟩; rw [bstr_nil h]; rfl)
    | skip
  rename_i e a n c
  obtain ⟨⟨rfl, rfl⟩, rfl⟩ := h
  refine ⟨_, rfl, none, 0, ?_, ?_, fun _ => ?_, fun _ => rfl, ?_⟩ <;> cases e <;> first | rfl | exact Nat.le_refl _ | exact fun h => absurd rfl h

theorem headO_spec (X : Cx) {d : TyD} {l r : List Value} (h : headO d l = some r) : ∃ a, l = a ++ r ∧ VC X d.zero a := by
  cases l with
  | nil => cases h
  | cons v l =>
    simp only [headO] at h
    split at h
    · rename_i hz; cases h; exact ⟨[v], rfl, zeroV_spec X hz⟩
    · cases h

mutual
theorem isZero_spec (X : Cx) : ∀ {d : TyD} {l r : List Value}, isZero d l = some r → ∃ a, l = a ++ r ∧ VC X d.zero a
  | .strct fs, l, r, h => by
    simp only [isZero] at h
    obtain ⟨a, rfl, ha⟩ := isZeros_spec X h
    exact ⟨a, rfl, by simpa [TyD.zero, VC] using ha⟩
  | .arr n e, l, r, h => by
    simp only [isZero] at h
    rw [timesO_spec h]
    exact ⟨_, rfl, by simp only [TyD.zero, VC]; rw [zeros_flat]⟩
  | .tup _, l, r, h => by simp [isZero] at h
  | .int k, l, r, h => by simp only [isZero] at h; exact headO_spec X h
  | .bool, l, r, h => by simp only [isZero] at h; exact headO_spec X h
  | .str, l, r, h => by simp only [isZero] at h; exact headO_spec X h
  | .slice e, l, r, h => by simp only [isZero] at h; exact headO_spec X h
  | .ptr, l, r, h => by simp only [isZero] at h; exact headO_spec X h
  | .map _, l, r, h => by simp only [isZero] at h; exact headO_spec X h
  | .func, l, r, h => by simp only [isZero] at h; exact headO_spec X h
  | .iface, l, r, h => by simp only [isZero] at h; exact headO_spec X h
  | .other, l, r, h => by simp only [isZero] at h; exact headO_spec X h
theorem isZeros_spec (X : Cx) : ∀ {ds : List TyD} {l r : List Value}, isZeros ds l = some r → ∃ a, l = a ++ r ∧ VCs X (TyD.zeros ds) a
  | [], l, r, h => by simp [isZeros] at h; exact ⟨[], by simp [h], by simp [TyD.zeros, VCs]⟩
  | d :: ds, l, r, h => by
    simp only [isZeros] at h
    cases h1 : isZero d l with
    | none => simp [h1] at h
    | some x =>
      simp only [h1] at h
      obtain ⟨a, rfl, ha⟩ := isZero_spec X h1
      obtain ⟨b, rfl, hb⟩ := isZeros_spec X h
      exact ⟨a ++ b, by simp, by simp only [TyD.zeros, VCs]; exact ⟨a, b, rfl, ha, hb⟩⟩
end

/-! ### The check -/
def doneO : Option (List Value) → Bool
  | some [] => true
  | _ => false

def elB (P : Program) (E : TypeId) (e : LK) : Bool :=
  match P.info? E with
  | none => false
  | some i => Nat.beq i.size e.size && Nat.ble i.bytes 64 && (match i.zero with | some z => doneO (elZero e z.cells.toList) | none => false) &&
    match e, P.underlying E with
    | .int k, some (.int k') => k == k'
    | .bool, some .bool => true
    | .str, some .string => true
    | .pend, some (.struct _) => true
    | .mic, some (.struct _) => true
    | .rcd, some (.struct _) => true
    | .pair, some (.struct _) => true
    | .slot, some (.struct _) => true
    | _, _ => false

def mapB (P : Program) (m : MK) (K E : TypeId) : Bool :=
  (match m, P.underlying K with
    | .sb, some .string => true
    | .sb, _ => false
    | _, some (.int .i64) => true
    | _, _ => false) &&
  match P.info? E with
  | none => false
  | some i => match m, i.zero with
    | .ib, some (.bool false) => true
    | .sb, some (.bool false) => true
    | .ii, some (.int .i64 0) => true
    | .ifn, some .nilFunc => true
    | _, _ => false

mutual
def tyB (P : Program) : TyD → TypeId → Bool
  | .other, _ => true
  | .tup _, _ => true
  | .int k, T => baseB P (.int k) T && (match P.underlying T with | some (.int k') => k == k' | _ => false)
  | .bool, T => baseB P .bool T && (match P.underlying T with | some .bool => true | _ => false)
  | .str, T => baseB P .str T && (match P.underlying T with | some .string => true | _ => false)
  | .slice e, T => baseB P (.slice e) T && (match P.underlying T with | some (.slice E) => elB P E e | _ => false)
  | .arr n e, T => baseB P (.arr n e) T && !P.eqGuardType P.depth T && (match P.underlying T with | some (.array m E) => Nat.beq n m && elB P E e | _ => false)
  | .map m, T => baseB P (.map m) T && (match P.underlying T with | some (.map K E) => mapB P m K E | _ => false)
  | .ptr, T => baseB P .ptr T && (match P.underlying T with | some (.pointer _) => true | _ => false)
  | .func, T => baseB P .func T && (match P.underlying T with | some (.func _ _ _) => true | _ => false)
  | .iface, T => baseB P .iface T && (match P.underlying T with | some (.interface _) => true | _ => false)
  | .strct fs, T => baseB P (.strct fs) T && !P.stoodInHeld T && !P.eqGuardType P.depth T &&
      (match P.underlying T with | some (.struct fields) => fieldsB P fs 0 fields.toList | _ => false)
def fieldsB (P : Program) : List TyD → Nat → List Field → Bool
  | [], _, fs => fs.isEmpty
  | d :: ds, off, fs => match fs with
    | [] => false
    | f :: fs' => Nat.beq f.offset off && f.name != "_" && (match P.info? f.type with | some i => Nat.beq i.size d.size | none => false) && Nat.blt 0 d.size && tyB P d f.type && fieldsB P ds (off + d.size) fs'
def baseB (P : Program) (d : TyD) (T : TypeId) : Bool :=
  match P.info? T with
  | none => false
  | some i => Nat.beq i.size d.size && (match i.zero with | some z => doneO (isZero d z.cells.toList) | none => false)
end

def TabOk (P : Program) (tab : TypeId → TyD) : Prop := ∀ T, tyB P (tab T) T = true

theorem doneO_spec {o : Option (List Value)} (h : doneO o = true) : o = some [] := by
  unfold doneO at h; split at h
  · rfl
  · cases h

structure ElOk (P : Program) (E : TypeId) (e : LK) : Prop where
  info : ∃ i z, P.info? E = some i ∧ i.size = e.size ∧ i.bytes ≤ 64 ∧ i.zero = some z ∧ z.cells.toList = (e.zeros 1).cell 0

theorem elOk {P : Program} {E : TypeId} {e : LK} (h : elB P E e = true) : ElOk P E e := by
  unfold elB at h
  split at h
  · cases h
  · rename_i i hi
    simp only [Bool.and_eq_true] at h
    obtain ⟨⟨⟨h1, h2⟩, h3⟩, h4⟩ := h
    have h1 := Nat.eq_of_beq_eq_true h1
    cases hz : i.zero with
    | none => simp [hz] at h3
    | some z =>
      simp only [hz] at h3
      have := elZero_spec (doneO_spec h3)
      exact ⟨i, z, hi, h1, Nat.le_of_ble_eq_true h2, hz, by simpa using this⟩

theorem elInt {P : Program} {E : TypeId} {k : IntKind} (h : elB P E (.int k) = true) : P.underlying E = some (.int k) := by
  unfold elB at h
  split at h
  · cases h
  · simp only [Bool.and_eq_true] at h
    have h := h.2
    split at h <;> simp_all

/-- an element is a struct or it is not -/
def LK.isAgg : LK → Bool
  | .int _ | .bool | .str => false
  | _ => true

structure Base (P : Program) (d : TyD) (T : TypeId) : Prop where
  info : ∃ i z, P.info? T = some i ∧ i.size = d.size ∧ i.zero = some z ∧ ∀ X, VC X d.zero z.cells.toList

theorem base_of {P : Program} {d : TyD} {T : TypeId} (h : baseB P d T = true) : Base P d T := by
  unfold baseB at h
  split at h
  · cases h
  · rename_i i hi
    simp only [Bool.and_eq_true] at h
    have h1 := Nat.eq_of_beq_eq_true h.1
    cases hz : i.zero with
    | none => simp [hz] at h
    | some z =>
      simp only [hz] at h
      refine ⟨i, z, hi, h1, hz, fun X => ?_⟩
      obtain ⟨a, ha, hv⟩ := isZero_spec X (doneO_spec h.2)
      simpa [ha] using hv

end Lam
