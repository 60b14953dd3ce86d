/- How abstract values and heaps stand to the model's: the relation, and what keeps it. -/
import Derived.Test.YtpjnljbfnppmlaaLA
import Derived.Laws.Strings
import Derived.Laws.Sem
set_option linter.unusedVariables false
set_option linter.unusedSimpArgs false
set_option linter.unnecessarySimpa false
set_option linter.unusedSectionVars false
namespace Lam
open Go

def bstr (s : Bytes) : ByteArray := ⟨s.toArray⟩
theorem bstr_inj {a b : Bytes} (h : bstr a = bstr b) : a = b := by
  have := congrArg (fun x : ByteArray => x.data.toList) h
  simpa [bstr] using this
theorem bstr_data (b : ByteArray) : bstr b.data.toList = b := by cases b; simp [bstr]
@[simp] theorem bstr_size (s : Bytes) : (bstr s).size = s.length := by simp [bstr, ByteArray.size]
theorem bstr_toList (s : Bytes) : (bstr s).toList = s := by
  rw [Go.ByteArray.toList_eq]; simp [bstr]

/-- the cells of element i -/
def Lst.cell (l : Lst) (i : Nat) : List Value :=
  match l with
  | .ints k xs => [.int k (xs.getD i 0)]
  | .bools xs => [.bool (xs.getD i false)]
  | .strs xs => [.string (bstr (xs.getD i []))]
  | .pends xs => let p := xs.getD i ⟨0, 0, false⟩; [.int .i64 p.at_, .int .i64 p.val, .bool p.fl]
  | .mics xs => let p := xs.getD i ⟨0, 0, 0⟩; [.int .i64 p.kind, .int .i64 p.at_, .int .i64 p.val]
  | .recs xs => let p := xs.getD i ⟨0, [], [], 0⟩; [.int .i64 p.kind, .string (bstr p.key), .string (bstr p.val), .int .i64 p.child]
  | .pairs xs => let p := xs.getD i ⟨[], []⟩; [.string (bstr p.key), .string (bstr p.val)]
  | .slots xs => let p := xs.getD i ⟨0, 0⟩; [.int .i64 p.at_, .int .i64 p.val]

theorem Lst.cell_length (l : Lst) (i : Nat) : (l.cell i).length = l.kind.size := by cases l <;> rfl
theorem LK.size_pos (k : LK) : 0 < k.size := by cases k <;> simp [LK.size]

/-- all cells -/
def Lst.flat (l : Lst) : List Value := (List.range l.len).flatMap l.cell

theorem flatMap_range_length (f : Nat → List Value) (s : Nat) (hf : ∀ i, (f i).length = s) : ∀ n, ((List.range n).flatMap f).length = n * s
  | 0 => by simp
  | n + 1 => by rw [List.range_succ, List.flatMap_append, List.length_append, flatMap_range_length f s hf n]; simp [hf, Nat.succ_mul]

theorem Lst.flat_length (l : Lst) : l.flat.length = l.len * l.kind.size := flatMap_range_length _ _ l.cell_length _

theorem flatMap_range_get (f : Nat → List Value) (s : Nat) (hf : ∀ i, (f i).length = s) : ∀ n i j, i < n → j < s → ((List.range n).flatMap f)[i * s + j]? = (f i)[j]?
  | 0, _, _, h, _ => absurd h (Nat.not_lt_zero _)
  | n + 1, i, j, hi, hj => by
    rw [List.range_succ, List.flatMap_append]
    by_cases h : i < n
    · have hl := flatMap_range_length f s hf n
      have : i * s + j < n * s := by
        have : (i + 1) * s ≤ n * s := Nat.mul_le_mul_right _ h
        rw [Nat.succ_mul] at this; omega
      rw [List.getElem?_append_left (by omega)]
      exact flatMap_range_get f s hf n i j h hj
    · have hin : i = n := by omega
      subst hin
      have hl := flatMap_range_length f s hf i
      rw [List.getElem?_append_right (by omega), hl]
      simp

theorem Lst.flat_get (l : Lst) {i j : Nat} (hi : i < l.len) (hj : j < l.kind.size) : l.flat[i * l.kind.size + j]? = (l.cell i)[j]? :=
  flatMap_range_get _ _ l.cell_length _ _ _ hi hj

/-- a world tells these cells from here on -/
def Reads (w : World) (b off : Nat) (cs : List Value) : Prop := ∀ (j : Nat) (v : Value), cs[j]? = some v → w.cell? ⟨b, off + j, none⟩ = some v

structure Cx where
  S : Nat → Prop
  μ : List (Option Nat)
  h : List AObj
  w : World

instance : Inhabited Cx := ⟨⟨fun _ => False, [], [], default⟩⟩

def offs : List PS → Nat
  | [] => 0
  | .f _ o :: p => o + offs p
  | .i _ k s :: p => k * s + offs p

theorem offs_append (p q : List PS) : offs (p ++ q) = offs p + offs q := by
  induction p with
  | nil => simp [offs]
  | cons x r ih => cases x <;> simp [offs, ih] <;> omega

def blockSize (w : World) (b : Nat) : Nat :=
  match w.heap[b]? with
  | some (.cells cs _ _) => cs.size
  | _ => 0

def SlV (X : Cx) (x : Bool) (l : Lst) (c : Value) : Prop :=
  ∃ a cap, c = .slice a l.len cap ∧ l.len ≤ cap ∧ (x = true → cap = l.len) ∧ (a = none → cap = 0) ∧
    (l.len ≠ 0 → ∃ ad : Addr, a = some ad ∧ ad.spot = none ∧ X.S ad.block ∧ Reads X.w ad.block ad.off l.flat)

/-- a row's kind, version and contents -/
def rowO : Option AObj → Option (RK × Nat × Lst)
  | some (.row k ver l) => some (k, ver, l)
  | _ => none

def SrV (X : Cx) (x : Bool) (id ver off len : Nat) (c : Value) : Prop :=
  ∃ a n cap, c = .slice a n cap ∧ ∃ k ver' l, rowO (X.h[id]?) = some (k, ver', l) ∧ ver ≤ ver' ∧ (ver = ver' → n = len ∧ len ≤ cap ∧ off + len ≤ l.len ∧ (x = true → cap = len) ∧ (a = none → cap = 0) ∧
    (cap ≠ 0 → ∃ b, X.μ[id]? = some (some b) ∧ a = some ⟨b, off * l.kind.size, none⟩ ∧ (off + cap) * l.kind.size ≤ blockSize X.w b))

def PtV (X : Cx) (id : Nat) (p : List PS) (c : Value) : Prop :=
  match p with
  | .i ver _ _ :: _ => ∃ k ver' l, rowO (X.h[id]?) = some (k, ver', l) ∧ ver ≤ ver' ∧ (∃ o, c = .pointer (some o)) ∧ (ver = ver' → ∃ b, X.μ[id]? = some (some b) ∧ c = .pointer (some ⟨b, offs p, none⟩))
  | p => ∃ b, X.μ[id]? = some (some b) ∧ c = .pointer (some ⟨b, offs p, none⟩) ∧ ∀ k ver l, rowO (X.h[id]?) = some (k, ver, l) → k ≠ .own

def EpV (X : Cx) (l : Lst) (i : Nat) (fs : List PS) (c : Value) : Prop :=
  ∃ b o, c = .pointer (some ⟨b, o + offs fs, none⟩) ∧ i < l.len ∧ X.S b ∧ Reads X.w b o (l.cell i)

def VB (X : Cx) : AV → Value → Prop
  | .top, _ => True
  | .und, c => c = undef
  | .int k n, c => c = .int k n
  | .bool b, c => c = .bool b
  | .str s, c => c = .string (bstr s)
  | .sl x l, c => SlV X x l c
  | .sref x id ver off len, c => SrV X x id ver off len c
  | .ep l i fs, c => EpV X l i fs c
  | .nilp, c => c = .pointer none
  | .ptr id p, c => PtV X id p c
  | .map id, c => ∃ b, X.μ[id]? = some (some b) ∧ c = .map (some b) ∧ rowO (X.h[id]?) = none
  | .nilfn, c => c = .nilFunc
  | .niliface, c => c = .nilIface
  | _, _ => False

mutual
/-- a value -/
def VV (X : Cx) : AV → Value → Prop
  | .agg vs, c => ∃ cs, c = .agg cs ∧ VCs X vs cs.toList
  | .arr l, c => ∃ cs, c = .agg cs ∧ cs.toList = l.flat
  | .tup vs, c => ∃ cs, c = .tuple cs ∧ VVs X vs cs.toList
  | .fn f first cap, c => ∃ a d, c = .func f a d ∧ VVs X first a.toList ∧ VVs X cap d.toList
  | .iface t v, c => ∃ u, c = .iface t u ∧ VV X v u
  | v, c => VB X v c
def VVs (X : Cx) : List AV → List Value → Prop
  | [], cs => cs = []
  | v :: r, cs => ∃ c d, cs = c :: d ∧ VV X v c ∧ VVs X r d
/-- a value as it lies in cells -/
def VC (X : Cx) : AV → List Value → Prop
  | .agg vs, cs => VCs X vs cs
  | .arr l, cs => cs = l.flat
  | .tup _, _ => False
  | .und, _ => False
  | .top, cs => ∃ c, cs = [c] ∧ c.oneCell' = true
  | .fn f first cap, cs => ∃ a d, cs = [.func f a d] ∧ VVs X first a.toList ∧ VVs X cap d.toList
  | .iface t v, cs => ∃ u, cs = [.iface t u] ∧ VV X v u
  | v, cs => ∃ c, cs = [c] ∧ VB X v c
def VCs (X : Cx) : List AV → List Value → Prop
  | [], cs => cs = []
  | v :: r, cs => ∃ a b, cs = a ++ b ∧ VC X v a ∧ VCs X r b
end

/-- maps: what a look-up tells -/
def keyEq : Value → Value → Bool
  | .int _ a, .int _ b => decide (a = b)
  | .string a, .string b => decide (a.data.toList = b.data.toList)
  | _, _ => false

def lookE (k z : Value) : List MapEntry → Value
  | [] => z
  | e :: r => if keyEq k e.key = true then e.val else lookE k z r

def fnV : Option FuncId → Value
  | some f => .func (.func f) #[] #[]
  | none => .nilFunc

def MapR : MapC → Array MapEntry → Prop
  | .ib m, es => (∀ e ∈ es.toList, ∃ k, e.key = .int .i64 k) ∧ ∀ n, lookE (.int .i64 n) (.bool false) es.toList = .bool (m n)
  | .ii m, es => (∀ e ∈ es.toList, ∃ k, e.key = .int .i64 k) ∧ ∀ n, lookE (.int .i64 n) (.int .i64 0) es.toList = .int .i64 (m n)
  | .sb m, es => (∀ e ∈ es.toList, ∃ k, e.key = .string (bstr k)) ∧ ∀ n, lookE (.string (bstr n)) (.bool false) es.toList = .bool (m n)
  | .ifn m, es => (∀ e ∈ es.toList, ∃ k, e.key = .int .i64 k) ∧ ∀ n, lookE (.int .i64 n) .nilFunc es.toList = fnV (m n)

/-- an object of the abstract heap -/
def OR (X : Cx) (b : Option Nat) : AObj → Prop
  | .box v => ∃ b' cs elem, b = some b' ∧ X.w.heap[b']? = some (.cells cs elem (0, 0)) ∧ VC X v cs.toList
  | .row k _ l => (b = none ∧ l.len = 0 ∧ k ≠ .arr) ∨ ∃ b' cs elem, b = some b' ∧ X.w.heap[b']? = some (.cells cs elem (0, 0)) ∧ (∃ r, cs.toList = l.flat ++ r) ∧ (k = .fro → X.S b')
  | .map m => ∃ b' es clock, b = some b' ∧ X.w.heap[b']? = some (.map es clock) ∧ MapR m es
  | .lp st pd r => ∃ b', b = some b' ∧ X.w.heap[b']? = some (.loop { r with state := st, pending := pd })
  | .dead => b = none

structure HR (X : Cx) : Prop where
  len : X.μ.length = X.h.length
  obj : ∀ (i : Nat) (o : AObj), X.h[i]? = some o → ∃ b, X.μ[i]? = some b ∧ OR X b o
  apart : ∀ (i j b : Nat), X.μ[i]? = some (some b) → X.μ[j]? = some (some b) → i = j
  live : ∀ (i b : Nat), X.μ[i]? = some (some b) → b < X.w.heap.size ∧ (X.S b → ∃ ver l, X.h[i]? = some (.row .fro ver l))
  old : ∀ (b : Nat), X.S b → b < X.w.heap.size


/-! ### Sizes -/
theorem VB_size {X : Cx} {v : AV} {c : Value} (h : VB X v c) : v.size = 1 := by cases v <;> first | rfl | exact h.elim

mutual
theorem VC_len {X : Cx} : ∀ {v : AV} {cs : List Value}, VC X v cs → cs.length = v.size
  | .agg vs, cs, h => by simp only [VC] at h; simp only [AV.size]; exact VCs_len h
  | .arr l, cs, h => by simp only [VC] at h; subst h; simp only [AV.size]; exact l.flat_length
  | .tup _, _, h => by simp only [VC] at h
  | .fn _ _ _, cs, h => by simp only [VC] at h; obtain ⟨a, d, rfl, _⟩ := h; rfl
  | .iface _ _, cs, h => by simp only [VC] at h; obtain ⟨u, rfl, _⟩ := h; rfl
  | .top, cs, h => by simp only [VC] at h; obtain ⟨c, rfl, _⟩ := h; rfl
  | .und, cs, h => by simp only [VC] at h
  | .int _ _, cs, h => by simp only [VC] at h; obtain ⟨c, rfl, _⟩ := h; rfl
  | .bool _, cs, h => by simp only [VC] at h; obtain ⟨c, rfl, _⟩ := h; rfl
  | .str _, cs, h => by simp only [VC] at h; obtain ⟨c, rfl, _⟩ := h; rfl
  | .sl _ _, cs, h => by simp only [VC] at h; obtain ⟨c, rfl, _⟩ := h; rfl
  | .sref _ _ _ _ _, cs, h => by simp only [VC] at h; obtain ⟨c, rfl, _⟩ := h; rfl
  | .ep _ _ _, cs, h => by simp only [VC] at h; obtain ⟨c, rfl, _⟩ := h; rfl
  | .nilp, cs, h => by simp only [VC] at h; obtain ⟨c, rfl, _⟩ := h; rfl
  | .ptr _ _, cs, h => by simp only [VC] at h; obtain ⟨c, rfl, _⟩ := h; rfl
  | .map _, cs, h => by simp only [VC] at h; obtain ⟨c, rfl, _⟩ := h; rfl
  | .nilfn, cs, h => by simp only [VC] at h; obtain ⟨c, rfl, _⟩ := h; rfl
  | .niliface, cs, h => by simp only [VC] at h; obtain ⟨c, rfl, _⟩ := h; rfl
theorem VCs_len {X : Cx} : ∀ {vs : List AV} {cs : List Value}, VCs X vs cs → cs.length = AV.sizes vs
  | [], cs, h => by simp only [VCs] at h; subst h; rfl
  | v :: r, cs, h => by
    simp only [VCs] at h
    obtain ⟨a, b, rfl, h1, h2⟩ := h
    simp only [AV.sizes, List.length_append, VC_len h1, VCs_len h2]
end

/-- not a struct, an array or a tuple -/
def AV.scalar : AV → Bool
  | .agg _ | .arr _ | .tup _ => false
  | _ => true

theorem VC_scalar {X : Cx} {v : AV} {cs : List Value} (hs : v.scalar = true) (hsol : v.solid = true) : VC X v cs ↔ ∃ c, cs = [c] ∧ VV X v c := by
  cases v <;> simp only [AV.scalar, AV.solid, Bool.false_eq_true] at hs hsol <;> simp only [VC, VV]
  · constructor
    · rintro ⟨a, d, rfl, h⟩; exact ⟨_, rfl, a, d, rfl, h⟩
    · rintro ⟨c, rfl, a, d, rfl, h⟩; exact ⟨a, d, rfl, h⟩
  · constructor
    · rintro ⟨u, rfl, h⟩; exact ⟨_, rfl, u, rfl, h⟩
    · rintro ⟨c, rfl, u, rfl, h⟩; exact ⟨u, rfl, h⟩

/-- a value's cells -/
theorem VV_cells {X : Cx} {v : AV} {c : Value} (h : VV X v c) (hsol : v.solid = true) (ha : v.scalar = true → ∀ cs, c ≠ .agg cs) : VC X v c.cells.toList := by
  by_cases hs : v.scalar = true
  · rw [VC_scalar hs hsol]
    refine ⟨c, ?_, h⟩
    cases c <;> first | rfl | exact absurd rfl (ha hs _)
  · cases v <;> simp [AV.scalar] at hs
    · simp only [VV] at h; obtain ⟨cs, rfl, h⟩ := h; simpa [VC, Value.cells] using h
    · simp only [VV] at h; obtain ⟨cs, rfl, h⟩ := h; simpa [VC, Value.cells] using h
    · cases hsol

theorem PtV_ptr {X : Cx} {id : Nat} {p : List PS} {c : Value} (h : PtV X id p c) : ∃ o, c = .pointer (some o) := by
  unfold PtV at h
  split at h
  · obtain ⟨_, _, _, _, _, ho, _⟩ := h; exact ho
  · obtain ⟨b, _, rfl, _⟩ := h; exact ⟨_, rfl⟩

theorem PtV_not_agg {X : Cx} {id : Nat} {p : List PS} (cs : Array Value) (h : PtV X id p (.agg cs)) : False := by
  obtain ⟨o, h⟩ := PtV_ptr h; cases h

theorem VB_not_agg {X : Cx} {v : AV} {c : Value} (h : VB X v c) (hv : v ≠ .top) (cs : Array Value) : c ≠ .agg cs := by
  rintro rfl
  cases v with
  | top => exact hv rfl
  | sl x l => obtain ⟨_, _, h, _⟩ := h; cases h
  | sref x id ver off len => obtain ⟨_, _, _, h, _⟩ := h; cases h
  | ep l i fs => obtain ⟨_, _, h, _⟩ := h; cases h
  | ptr id p => exact PtV_not_agg cs h
  | map id => obtain ⟨_, _, h, _⟩ := h; cases h
  | _ => first | exact h.elim | cases h

theorem VV_scalar_not_agg {X : Cx} {v : AV} {c : Value} (hs : v.scalar = true) (h : VV X v c) (hv : v ≠ .top) (cs : Array Value) : c ≠ .agg cs := by
  cases v <;> simp only [AV.scalar, Bool.false_eq_true] at hs <;> simp only [VV] at h <;> first
    | exact VB_not_agg h hv cs
    | (obtain ⟨_, _, rfl, _⟩ := h; simp)
    | (obtain ⟨_, rfl, _⟩ := h; simp)

theorem VV_to_VC {X : Cx} {v : AV} {c : Value} (h : VV X v c) (hs : v.solid = true) : VC X v c.cells.toList :=
  VV_cells h hs fun hsc cs => VV_scalar_not_agg hsc h (by rintro rfl; cases hs) cs

theorem VC_to_VV {X : Cx} {v : AV} {cs : List Value} (h : VC X v cs) (hs : v.scalar = true) : ∃ c, cs = [c] ∧ VV X v c := by
  cases hsol : v.solid with
  | true => exact (VC_scalar hs hsol).1 h
  | false =>
    cases v <;> simp only [AV.solid, Bool.true_eq_false] at hsol
    · simp only [VC] at h; obtain ⟨c, rfl, _⟩ := h; exact ⟨c, rfl, trivial⟩
    · simp only [VC] at h
    · cases hs

theorem VC_agg_VV {X : Cx} {v : AV} {cs : Array Value} (h : VC X v cs.toList) (hs : v.scalar = false) : VV X v (.agg cs) := by
  cases v <;> simp only [AV.scalar, Bool.true_eq_false] at hs
  · simp only [VC] at h; exact ⟨cs, rfl, h⟩
  · simp only [VC] at h; exact ⟨cs, rfl, h⟩
  · simp only [VC] at h

theorem VV_size {X : Cx} {v : AV} {c : Value} (h : VV X v c) (hs : v.solid = true) : c.cells.size = v.size := by
  have := VC_len (VV_to_VC h hs)
  simpa using this

/-- cells hold no structs -/
def Ones (cs : List Value) : Prop := ∀ u ∈ cs, u.oneCell' = true
theorem Ones.append {a b : List Value} (h : Ones a) (k : Ones b) : Ones (a ++ b) := fun u hu => (List.mem_append.1 hu).elim (h u) (k u)
theorem Ones.one {c : Value} (h : c.oneCell' = true) : Ones [c] := fun u hu => by rw [List.mem_singleton.1 hu]; exact h

theorem cell_ones (l : Lst) (i : Nat) : Ones (l.cell i) := by cases l <;> intro u hu <;> simp [Lst.cell] at hu <;> (repeat' (rcases hu with rfl | hu)) <;> first | rfl | (subst hu; rfl)
theorem flat_ones (l : Lst) : Ones l.flat := fun u hu => by
  obtain ⟨i, _, hi⟩ := List.mem_flatMap.1 hu
  exact cell_ones l i u hi

theorem VB_ones {X : Cx} {v : AV} {c : Value} (h : VB X v c) (hs : v.solid = true) : c.oneCell' = true := by
  cases v with
  | top => cases hs
  | und => cases hs
  | sl x l => obtain ⟨_, _, rfl, _⟩ := h; rfl
  | sref x id ver off len => obtain ⟨_, _, _, rfl, _⟩ := h; rfl
  | ep l i fs => obtain ⟨_, _, rfl, _⟩ := h; rfl
  | ptr id p => obtain ⟨_, rfl⟩ := PtV_ptr h; rfl
  | map id => obtain ⟨_, _, rfl, _⟩ := h; rfl
  | int k n => rw [show c = _ from h]; rfl
  | bool b => rw [show c = _ from h]; rfl
  | str s => rw [show c = _ from h]; rfl
  | nilp => rw [show c = _ from h]; rfl
  | nilfn => rw [show c = _ from h]; rfl
  | niliface => rw [show c = _ from h]; rfl
  | _ => exact h.elim

mutual
theorem VC_ones {X : Cx} : ∀ {v : AV} {cs : List Value}, VC X v cs → Ones cs
  | .agg vs, cs, h => by simp only [VC] at h; exact VCs_ones h
  | .arr l, cs, h => by simp only [VC] at h; subst h; exact flat_ones l
  | .tup _, _, h => by simp only [VC] at h
  | .und, _, h => by simp only [VC] at h
  | .top, cs, h => by simp only [VC] at h; obtain ⟨c, rfl, h⟩ := h; exact Ones.one h
  | .fn _ _ _, cs, h => by simp only [VC] at h; obtain ⟨a, d, rfl, _⟩ := h; exact Ones.one rfl
  | .iface _ _, cs, h => by simp only [VC] at h; obtain ⟨u, rfl, _⟩ := h; exact Ones.one rfl
  | .int _ _, cs, h => by simp only [VC] at h; obtain ⟨c, rfl, h⟩ := h; exact Ones.one (VB_ones h rfl)
  | .bool _, cs, h => by simp only [VC] at h; obtain ⟨c, rfl, h⟩ := h; exact Ones.one (VB_ones h rfl)
  | .str _, cs, h => by simp only [VC] at h; obtain ⟨c, rfl, h⟩ := h; exact Ones.one (VB_ones h rfl)
  | .sl _ _, cs, h => by simp only [VC] at h; obtain ⟨c, rfl, h⟩ := h; exact Ones.one (VB_ones h rfl)
  | .sref _ _ _ _ _, cs, h => by simp only [VC] at h; obtain ⟨c, rfl, h⟩ := h; exact Ones.one (VB_ones h rfl)
  | .ep _ _ _, cs, h => by simp only [VC] at h; obtain ⟨c, rfl, h⟩ := h; exact Ones.one (VB_ones h rfl)
  | .nilp, cs, h => by simp only [VC] at h; obtain ⟨c, rfl, h⟩ := h; exact Ones.one (VB_ones h rfl)
  | .ptr _ _, cs, h => by simp only [VC] at h; obtain ⟨c, rfl, h⟩ := h; exact Ones.one (VB_ones h rfl)
  | .map _, cs, h => by simp only [VC] at h; obtain ⟨c, rfl, h⟩ := h; exact Ones.one (VB_ones h rfl)
  | .nilfn, cs, h => by simp only [VC] at h; obtain ⟨c, rfl, h⟩ := h; exact Ones.one (VB_ones h rfl)
  | .niliface, cs, h => by simp only [VC] at h; obtain ⟨c, rfl, h⟩ := h; exact Ones.one (VB_ones h rfl)
theorem VCs_ones {X : Cx} : ∀ {vs : List AV} {cs : List Value}, VCs X vs cs → Ones cs
  | [], cs, h => by simp only [VCs] at h; subst h; exact fun u hu => by simp at hu
  | v :: r, cs, h => by
    simp only [VCs] at h
    obtain ⟨a, b, rfl, h1, h2⟩ := h
    exact (VC_ones h1).append (VCs_ones h2)
end

/-! ### Parts -/
theorem VCs_split {X : Cx} : ∀ {vs : List AV} {cs : List Value} (k : Nat), VCs X vs cs → ∃ a b, cs = a ++ b ∧ VCs X (vs.take k) a ∧ VCs X (vs.drop k) b
  | vs, cs, 0, h => ⟨[], cs, rfl, by simp [VCs], by simpa using h⟩
  | [], cs, k + 1, h => ⟨cs, [], by simp, by simpa using h, by simp [VCs]⟩
  | v :: r, cs, k + 1, h => by
    simp only [VCs] at h
    obtain ⟨a, b, rfl, h1, h2⟩ := h
    obtain ⟨a2, b2, rfl, h3, h4⟩ := VCs_split k h2
    exact ⟨a ++ a2, b2, by simp, by simp only [List.take_succ_cons, VCs]; exact ⟨a, a2, rfl, h1, h3⟩, by simpa using h4⟩

theorem VCs_append {X : Cx} : ∀ {vs us : List AV} {a b : List Value}, VCs X vs a → VCs X us b → VCs X (vs ++ us) (a ++ b)
  | [], _, _, _, h, h2 => by simp only [VCs] at h; subst h; simpa using h2
  | v :: r, us, a, b, h, h2 => by
    simp only [VCs] at h
    obtain ⟨x, y, rfl, h1, h3⟩ := h
    simp only [List.cons_append, VCs]
    exact ⟨x, y ++ b, by simp, h1, VCs_append h3 h2⟩

theorem VCs_at {X : Cx} {vs : List AV} {cs : List Value} {k : Nat} {v : AV} (h : VCs X vs cs) (hk : vs[k]? = some v) :
    ∃ a u b, cs = a ++ (u ++ b) ∧ a.length = AV.sizes (vs.take k) ∧ VC X v u ∧ VCs X (vs.take k) a ∧ VCs X (vs.drop (k + 1)) b := by
  obtain ⟨a, r, rfl, h1, h2⟩ := VCs_split k h
  have hd : vs.drop k = v :: vs.drop (k + 1) := by
    obtain ⟨hlt, rfl⟩ := List.getElem?_eq_some_iff.1 hk
    exact List.drop_eq_getElem_cons hlt
  rw [hd] at h2
  simp only [VCs] at h2
  obtain ⟨u, b, rfl, h3, h4⟩ := h2
  exact ⟨a, u, b, rfl, VCs_len h1, h3, h1, h4⟩

theorem VCs_set {X : Cx} {vs : List AV} {k : Nat} {v : AV} {a u b : List Value} (hk : k < vs.length) (h1 : VCs X (vs.take k) a) (h2 : VC X v u) (h3 : VCs X (vs.drop (k + 1)) b) :
    VCs X (vs.set k v) (a ++ (u ++ b)) := by
  rw [List.set_eq_take_append_cons_drop, if_pos hk]
  refine VCs_append h1 ?_
  simp only [VCs]
  exact ⟨u, b, rfl, h2, h3⟩

theorem VC_at {X : Cx} : ∀ {p : List PS} {v u : AV} {cs : List Value}, VC X v cs → v.at_ p = some u → ∃ a us b, cs = a ++ (us ++ b) ∧ a.length = offs p ∧ VC X u us
  | [], v, u, cs, h, hp => by
    have : v.at_ [] = some v := by cases v <;> rfl
    rw [this] at hp; obtain rfl := Option.some.inj hp
    exact ⟨[], cs, [], by simp, rfl, h⟩
  | .f k off :: p, .agg vs, u, cs, h, hp => by
    simp only [VC] at h
    simp only [AV.at_] at hp
    split at hp
    · rename_i ho
      cases hv : vs[k]? with
      | none => simp [hv] at hp
      | some v =>
        simp only [hv, Option.bind_some] at hp
        obtain ⟨a, us, b, rfl, ha, h1, _, _⟩ := VCs_at h hv
        obtain ⟨a2, us2, b2, rfl, ha2, h2⟩ := VC_at h1 hp
        exact ⟨a ++ a2, us2, b2 ++ b, by simp, by simp [ha, ha2, offs, ho], h2⟩
    · cases hp
  | .f _ _ :: _, .top, _, _, _, hp | .f _ _ :: _, .und, _, _, _, hp | .f _ _ :: _, .int _ _, _, _, _, hp | .f _ _ :: _, .bool _, _, _, _, hp | .f _ _ :: _, .str _, _, _, _, hp
  | .f _ _ :: _, .arr _, _, _, _, hp | .f _ _ :: _, .tup _, _, _, _, hp | .f _ _ :: _, .sl _ _, _, _, _, hp | .f _ _ :: _, .sref _ _ _ _ _, _, _, _, hp | .f _ _ :: _, .ep _ _ _, _, _, _, hp
  | .f _ _ :: _, .nilp, _, _, _, hp | .f _ _ :: _, .ptr _ _, _, _, _, hp | .f _ _ :: _, .map _, _, _, _, hp | .f _ _ :: _, .fn _ _ _, _, _, _, hp | .f _ _ :: _, .nilfn, _, _, _, hp
  | .f _ _ :: _, .iface _ _, _, _, _, hp | .f _ _ :: _, .niliface, _, _, _, hp => by cases hp
  | .i _ _ _ :: _, v, _, _, _, hp => by cases v <;> cases hp

theorem VC_set {X : Cx} : ∀ {p : List PS} {v v' u : AV} {cs us' : List Value}, VC X v cs → v.setAt p u = some v' → VC X u us' →
    ∃ a us b, cs = a ++ (us ++ b) ∧ a.length = offs p ∧ us.length = us'.length ∧ VC X v' (a ++ (us' ++ b))
  | [], v, v', u, cs, us', h, hp, hu => by
    have : v.setAt [] u = if v.size = u.size then some u else none := by cases v <;> rfl
    rw [this] at hp
    split at hp
    · rename_i hs
      obtain rfl := Option.some.inj hp
      exact ⟨[], cs, [], by simp, rfl, by rw [VC_len h, VC_len hu, hs], by simpa using hu⟩
    · cases hp
  | .f k off :: p, .agg vs, v', u, cs, us', h, hp, hu => by
    simp only [VC] at h
    simp only [AV.setAt] at hp
    split at hp
    · rename_i ho
      cases hv : vs[k]? with
      | none => simp [hv] at hp
      | some v =>
        simp only [hv, Option.bind_some] at hp
        cases hw : v.setAt p u with
        | none => simp [hw] at hp
        | some w =>
          simp only [hw, Option.map_some, Option.some.injEq] at hp
          subst hp
          obtain ⟨a, us, b, rfl, ha, h1, h2, h3⟩ := VCs_at h hv
          obtain ⟨a2, us2, b2, rfl, ha2, hl, h4⟩ := VC_set h1 hw hu
          refine ⟨a ++ a2, us2, b2 ++ b, by simp, by simp [ha, ha2, offs, ho], hl, ?_⟩
          have hk : k < vs.length := (List.getElem?_eq_some_iff.1 hv).1
          have := VCs_set hk h2 h4 h3
          simp only [VC]
          simpa using this
    · cases hp
  | .f _ _ :: _, .top, _, _, _, _, _, hp, _ | .f _ _ :: _, .und, _, _, _, _, _, hp, _ | .f _ _ :: _, .int _ _, _, _, _, _, _, hp, _ | .f _ _ :: _, .bool _, _, _, _, _, _, hp, _ | .f _ _ :: _, .str _, _, _, _, _, _, hp, _
  | .f _ _ :: _, .arr _, _, _, _, _, _, hp, _ | .f _ _ :: _, .tup _, _, _, _, _, _, hp, _ | .f _ _ :: _, .sl _ _, _, _, _, _, _, hp, _ | .f _ _ :: _, .sref _ _ _ _ _, _, _, _, _, _, hp, _ | .f _ _ :: _, .ep _ _ _, _, _, _, _, _, hp, _
  | .f _ _ :: _, .nilp, _, _, _, _, _, hp, _ | .f _ _ :: _, .ptr _ _, _, _, _, _, _, hp, _ | .f _ _ :: _, .map _, _, _, _, _, _, hp, _ | .f _ _ :: _, .fn _ _ _, _, _, _, _, _, hp, _ | .f _ _ :: _, .nilfn, _, _, _, _, _, hp, _
  | .f _ _ :: _, .iface _ _, _, _, _, _, _, hp, _ | .f _ _ :: _, .niliface, _, _, _, _, _, hp, _ => by cases hp
  | .i _ _ _ :: _, v, _, _, _, _, _, hp, _ => by cases v <;> cases hp


/-! ### What keeps the relation -/
/-- the rest of a world is the same -/
def SameEnv (w w' : World) : Prop := w'.os = w.os ∧ w'.tape = w.tape ∧ w'.output = w.output
theorem SameEnv.refl (w : World) : SameEnv w w := ⟨rfl, rfl, rfl⟩
theorem SameEnv.trans {a b c : World} (h : SameEnv a b) (k : SameEnv b c) : SameEnv a c := ⟨k.1.trans h.1, k.2.1.trans h.2.1, k.2.2.trans h.2.2⟩
def Pushed (w w' : World) (o : Obj) : Prop := w'.heap = w.heap.push o ∧ SameEnv w w'

structure Ext (X Y : Cx) : Prop where
  S : ∀ b, X.S b → Y.S b
  cells : ∀ b, X.S b → Y.w.heap[b]? = X.w.heap[b]?
  new : ∀ b, Y.S b → X.S b ∨ (∃ i : Nat, X.μ[i]? = some (some b)) ∨ X.w.heap.size ≤ b
  muinv : ∀ (i b : Nat), Y.μ[i]? = some (some b) → (X.μ[i]? = some (some b)) ∨ X.w.heap.size ≤ b
  keep : ∀ b, b < X.w.heap.size → (∀ i : Nat, X.μ[i]? ≠ some (some b)) → Y.w.heap[b]? = X.w.heap[b]?
  grow : X.w.heap.size ≤ Y.w.heap.size
  row : ∀ (i : Nat) (k : RK) (ver : Nat) (l : Lst), rowO (X.h[i]?) = some (k, ver, l) → ∃ k' ver' l', rowO (Y.h[i]?) = some (k', ver', l') ∧ ver ≤ ver' ∧
    (ver = ver' → l'.len = l.len ∧ l'.kind = l.kind ∧ ∀ b, X.μ[i]? = some (some b) → Y.μ[i]? = some (some b) ∧ blockSize X.w b ≤ blockSize Y.w b) ∧ (k ≠ .own → k' ≠ .own ∧ ver = ver')
  oth : ∀ (i b : Nat), rowO (X.h[i]?) = none → X.μ[i]? = some (some b) → Y.μ[i]? = some (some b) ∧ rowO (Y.h[i]?) = none
  env : SameEnv X.w Y.w

/-- what values ask of it -/
structure ExtV (X Y : Cx) : Prop where
  S : ∀ b, X.S b → Y.S b
  cells : ∀ b, X.S b → Y.w.heap[b]? = X.w.heap[b]?
  row : ∀ (i : Nat) (k : RK) (ver : Nat) (l : Lst), rowO (X.h[i]?) = some (k, ver, l) → ∃ k' ver' l', rowO (Y.h[i]?) = some (k', ver', l') ∧ ver ≤ ver' ∧
    (ver = ver' → l'.len = l.len ∧ l'.kind = l.kind ∧ ∀ b, X.μ[i]? = some (some b) → Y.μ[i]? = some (some b) ∧ blockSize X.w b ≤ blockSize Y.w b) ∧ (k ≠ .own → k' ≠ .own ∧ ver = ver')
  oth : ∀ (i b : Nat), rowO (X.h[i]?) = none → X.μ[i]? = some (some b) → Y.μ[i]? = some (some b) ∧ rowO (Y.h[i]?) = none

theorem Ext.v {X Y : Cx} (E : Ext X Y) : ExtV X Y := ⟨E.S, E.cells, E.row, E.oth⟩

theorem Ext.refl (X : Cx) : Ext X X where
  S _ h := h
  cells _ _ := rfl
  new _ h := .inl h
  muinv _ _ h := .inl h
  keep _ _ _ := rfl
  grow := Nat.le_refl _
  row _ k ver l h := ⟨k, ver, l, h, Nat.le_refl _, fun _ => ⟨rfl, rfl, fun _ h => ⟨h, Nat.le_refl _⟩⟩, fun h => ⟨h, rfl⟩⟩
  oth _ _ h k := ⟨k, h⟩
  env := SameEnv.refl _

theorem Ext.trans {X Y Z : Cx} (h : Ext X Y) (k : Ext Y Z) : Ext X Z where
  S b hb := k.S b (h.S b hb)
  cells b hb := (k.cells b (h.S b hb)).trans (h.cells b hb)
  new b hb := by
    rcases k.new b hb with h1 | ⟨i, h1⟩ | h1
    · exact h.new b h1
    · rcases h.muinv i b h1 with h2 | h2
      · exact .inr (.inl ⟨i, h2⟩)
      · exact .inr (.inr h2)
    · exact .inr (.inr (Nat.le_trans h.grow h1))
  muinv i b hb := by
    rcases k.muinv i b hb with h1 | h1
    · exact h.muinv i b h1
    · exact .inr (Nat.le_trans h.grow h1)
  keep b hb hn := by
    have h1 := h.keep b hb hn
    rw [← h1]
    refine k.keep b (Nat.lt_of_lt_of_le hb h.grow) fun i hi => ?_
    rcases h.muinv i b hi with h2 | h2
    · exact hn i h2
    · omega
  grow := Nat.le_trans h.grow k.grow
  row i r ver l hl := by
    obtain ⟨r1, v1, l1, h1, le1, e1, o1⟩ := h.row i r ver l hl
    obtain ⟨r2, v2, l2, h2, le2, e2, o2⟩ := k.row i r1 v1 l1 h1
    refine ⟨r2, v2, l2, h2, Nat.le_trans le1 le2, fun e => ?_, fun hr => ?_⟩
    · have a := e1 (by omega)
      have b := e2 (by omega)
      refine ⟨b.1.trans a.1, b.2.1.trans a.2.1, fun x hx => ?_⟩
      have c := a.2.2 x hx
      have d := b.2.2 x c.1
      exact ⟨d.1, Nat.le_trans c.2 d.2⟩
    · have a := o1 hr
      have b := o2 a.1
      exact ⟨b.1, a.2.trans b.2⟩
  oth i b hn hb := by
    have a := h.oth i b hn hb
    exact k.oth i b a.2 a.1
  env := h.env.trans k.env

theorem ExtV.trans {X Y Z : Cx} (h : ExtV X Y) (k : ExtV Y Z) : ExtV X Z where
  S b hb := k.S b (h.S b hb)
  cells b hb := (k.cells b (h.S b hb)).trans (h.cells b hb)
  row i r ver l hl := by
    obtain ⟨r', ver', l', a1, a2, a3, a4⟩ := h.row i r ver l hl
    obtain ⟨r'', ver'', l'', b1, b2, b3, b4⟩ := k.row i r' ver' l' a1
    refine ⟨r'', ver'', l'', b1, Nat.le_trans a2 b2, fun e => ?_, fun hr => ?_⟩
    · have e1 : ver = ver' := by omega
      have e2 : ver' = ver'' := by omega
      obtain ⟨p1, p2, p3⟩ := a3 e1
      obtain ⟨q1, q2, q3⟩ := b3 e2
      refine ⟨q1.trans p1, q2.trans p2, fun b hb => ?_⟩
      obtain ⟨x1, x2⟩ := p3 b hb
      obtain ⟨y1, y2⟩ := q3 b x1
      exact ⟨y1, Nat.le_trans x2 y2⟩
    · obtain ⟨p1, p2⟩ := a4 hr
      obtain ⟨q1, q2⟩ := b4 p1
      exact ⟨q1, p2.trans q2⟩
  oth i b h1 h2 := by
    obtain ⟨a1, a2⟩ := h.oth i b h1 h2
    exact k.oth i b a2 a1

theorem Reads.of_heap {w w' : World} {b off : Nat} {cs : List Value} (h : Reads w b off cs) (e : w'.heap[b]? = w.heap[b]?) : Reads w' b off cs := by
  intro j v hj
  have := h j v hj
  unfold World.cell? at *
  simp only [e]
  exact this

theorem PtV.extV {X Y : Cx} (E : ExtV X Y) {id : Nat} {p : List PS} {c : Value} (h : PtV X id p c) : PtV Y id p c := by
  have base : ∀ q : List PS, (∃ b, X.μ[id]? = some (some b) ∧ c = .pointer (some ⟨b, offs q, none⟩) ∧ ∀ k ver l, rowO (X.h[id]?) = some (k, ver, l) → k ≠ .own) →
      (∃ b, Y.μ[id]? = some (some b) ∧ c = .pointer (some ⟨b, offs q, none⟩) ∧ ∀ k ver l, rowO (Y.h[id]?) = some (k, ver, l) → k ≠ .own) := by
    rintro q ⟨b, hb, rfl, hk⟩
    cases hr : rowO (X.h[id]?) with
    | none =>
      have := E.oth _ _ hr hb
      exact ⟨b, this.1, rfl, fun k ver l h => by rw [this.2] at h; cases h⟩
    | some r =>
      obtain ⟨k, ver, l⟩ := r
      obtain ⟨k2, v2, l2, hl2, hle2, e2, e3⟩ := E.row id k ver l hr
      have h3 := e3 (hk _ _ _ hr)
      have h4 := e2 h3.2
      exact ⟨b, (h4.2.2 b hb).1, rfl, fun k ver l h => by rw [hl2] at h; cases h; exact h3.1⟩
  cases p with
  | nil => exact base [] h
  | cons x r => cases x with
    | f i o => exact base _ h
    | i ver i sz =>
      obtain ⟨k, ver', l, hl, hle, ho, h1⟩ := h
      obtain ⟨k2, v2, l2, hl2, hle2, e2, _⟩ := E.row id k ver' l hl
      refine ⟨k2, v2, l2, hl2, Nat.le_trans hle hle2, ho, fun e => ?_⟩
      obtain ⟨b, hb, hc⟩ := h1 (by omega)
      exact ⟨b, ((e2 (by omega)).2.2 b hb).1, hc⟩

theorem VB.extV {X Y : Cx} (E : ExtV X Y) : ∀ {v : AV} {c : Value}, VB X v c → VB Y v c := by
  intro v c h
  cases v with
  | sl x l =>
    obtain ⟨a, cap, rfl, h1, h2, h3, h4⟩ := h
    refine ⟨a, cap, rfl, h1, h2, h3, fun hl => ?_⟩
    obtain ⟨ad, rfl, hs, hS, hr⟩ := h4 hl
    exact ⟨ad, rfl, hs, E.S _ hS, hr.of_heap (E.cells _ hS)⟩
  | sref x id ver off len =>
    obtain ⟨a, n, cap, rfl, k, ver', l, hl, hle, h1⟩ := h
    obtain ⟨k2, v2, l2, hl2, hle2, e2, _⟩ := E.row id k ver' l hl
    refine ⟨a, n, cap, rfl, k2, v2, l2, hl2, Nat.le_trans hle hle2, fun e => ?_⟩
    have e1 : ver = ver' := by omega
    obtain ⟨h2, h3, h4, h5, h6, h7⟩ := h1 e1
    obtain ⟨el, ek, em⟩ := e2 (by omega)
    refine ⟨h2, h3, by rw [el]; exact h4, h5, h6, fun hc => ?_⟩
    obtain ⟨b, hb, ha, hz⟩ := h7 hc
    obtain ⟨hb', hz'⟩ := em b hb
    exact ⟨b, hb', by rw [ek]; exact ha, by rw [ek]; exact Nat.le_trans hz hz'⟩
  | ep l i fs =>
    obtain ⟨b, o, rfl, hi, hS, hr⟩ := h
    exact ⟨b, o, rfl, hi, E.S _ hS, hr.of_heap (E.cells _ hS)⟩
  | ptr id p => exact PtV.extV E h
  | map id => obtain ⟨b, hb, rfl, hn⟩ := h; have := E.oth _ _ hn hb; exact ⟨b, this.1, rfl, this.2⟩
  | _ => exact h

mutual
theorem VV.extV {X Y : Cx} (E : ExtV X Y) : ∀ {v : AV} {c : Value}, VV X v c → VV Y v c
  | .agg vs, c, h => by simp only [VV] at *; obtain ⟨cs, rfl, h⟩ := h; exact ⟨cs, rfl, VCs.extV E h⟩
  | .arr l, c, h => by simp only [VV] at *; exact h
  | .tup vs, c, h => by simp only [VV] at *; obtain ⟨cs, rfl, h⟩ := h; exact ⟨cs, rfl, VVs.extV E h⟩
  | .fn _ _ _, c, h => by simp only [VV] at *; obtain ⟨a, d, rfl, h1, h2⟩ := h; exact ⟨a, d, rfl, VVs.extV E h1, VVs.extV E h2⟩
  | .iface _ _, c, h => by simp only [VV] at *; obtain ⟨u, rfl, h⟩ := h; exact ⟨u, rfl, VV.extV E h⟩
  | .top, c, h => VB.extV E (v := .top) h
  | .und, c, h => VB.extV E (v := .und) h
  | .int _ _, c, h => VB.extV E (v := .int _ _) h
  | .bool _, c, h => VB.extV E (v := .bool _) h
  | .str _, c, h => VB.extV E (v := .str _) h
  | .sl _ _, c, h => VB.extV E (v := .sl _ _) h
  | .sref _ _ _ _ _, c, h => VB.extV E (v := .sref _ _ _ _ _) h
  | .ep _ _ _, c, h => VB.extV E (v := .ep _ _ _) h
  | .nilp, c, h => VB.extV E (v := .nilp) h
  | .ptr _ _, c, h => VB.extV E (v := .ptr _ _) h
  | .map _, c, h => VB.extV E (v := .map _) h
  | .nilfn, c, h => VB.extV E (v := .nilfn) h
  | .niliface, c, h => VB.extV E (v := .niliface) h
theorem VVs.extV {X Y : Cx} (E : ExtV X Y) : ∀ {vs : List AV} {cs : List Value}, VVs X vs cs → VVs Y vs cs
  | [], cs, h => by simp only [VVs] at *; exact h
  | v :: r, cs, h => by simp only [VVs] at *; obtain ⟨c, d, rfl, h1, h2⟩ := h; exact ⟨c, d, rfl, VV.extV E h1, VVs.extV E h2⟩
theorem VC.extV {X Y : Cx} (E : ExtV X Y) : ∀ {v : AV} {cs : List Value}, VC X v cs → VC Y v cs
  | .agg vs, c, h => by simp only [VC] at *; exact VCs.extV E h
  | .arr l, c, h => by simp only [VC] at *; exact h
  | .tup vs, c, h => by simp only [VC] at h
  | .fn _ _ _, c, h => by simp only [VC] at *; obtain ⟨a, d, rfl, h1, h2⟩ := h; exact ⟨a, d, rfl, VVs.extV E h1, VVs.extV E h2⟩
  | .iface _ _, c, h => by simp only [VC] at *; obtain ⟨u, rfl, h⟩ := h; exact ⟨u, rfl, VV.extV E h⟩
  | .top, c, h => by simp only [VC] at *; exact h
  | .und, c, h => by simp only [VC] at h
  | .int _ _, c, h => by simp only [VC] at *; obtain ⟨c, rfl, h⟩ := h; exact ⟨c, rfl, VB.extV E h⟩
  | .bool _, c, h => by simp only [VC] at *; obtain ⟨c, rfl, h⟩ := h; exact ⟨c, rfl, VB.extV E h⟩
  | .str _, c, h => by simp only [VC] at *; obtain ⟨c, rfl, h⟩ := h; exact ⟨c, rfl, VB.extV E h⟩
  | .sl _ _, c, h => by simp only [VC] at *; obtain ⟨c, rfl, h⟩ := h; exact ⟨c, rfl, VB.extV E h⟩
  | .sref _ _ _ _ _, c, h => by simp only [VC] at *; obtain ⟨c, rfl, h⟩ := h; exact ⟨c, rfl, VB.extV E h⟩
  | .ep _ _ _, c, h => by simp only [VC] at *; obtain ⟨c, rfl, h⟩ := h; exact ⟨c, rfl, VB.extV E h⟩
  | .nilp, c, h => by simp only [VC] at *; obtain ⟨c, rfl, h⟩ := h; exact ⟨c, rfl, VB.extV E h⟩
  | .ptr _ _, c, h => by simp only [VC] at *; obtain ⟨c, rfl, h⟩ := h; exact ⟨c, rfl, VB.extV E h⟩
  | .map _, c, h => by simp only [VC] at *; obtain ⟨c, rfl, h⟩ := h; exact ⟨c, rfl, VB.extV E h⟩
  | .nilfn, c, h => by simp only [VC] at *; obtain ⟨c, rfl, h⟩ := h; exact ⟨c, rfl, VB.extV E h⟩
  | .niliface, c, h => by simp only [VC] at *; obtain ⟨c, rfl, h⟩ := h; exact ⟨c, rfl, VB.extV E h⟩
theorem VCs.extV {X Y : Cx} (E : ExtV X Y) : ∀ {vs : List AV} {cs : List Value}, VCs X vs cs → VCs Y vs cs
  | [], cs, h => by simp only [VCs] at *; exact h
  | v :: r, cs, h => by simp only [VCs] at *; obtain ⟨a, b, rfl, h1, h2⟩ := h; exact ⟨a, b, rfl, VC.extV E h1, VCs.extV E h2⟩
end

theorem VB.ext {X Y : Cx} (E : Ext X Y) {v : AV} {c : Value} (h : VB X v c) : VB Y v c := VB.extV E.v h
theorem VV.ext {X Y : Cx} (E : Ext X Y) {v : AV} {c : Value} (h : VV X v c) : VV Y v c := VV.extV E.v h
theorem VVs.ext {X Y : Cx} (E : Ext X Y) {vs : List AV} {cs : List Value} (h : VVs X vs cs) : VVs Y vs cs := VVs.extV E.v h
theorem VC.ext {X Y : Cx} (E : Ext X Y) {v : AV} {cs : List Value} (h : VC X v cs) : VC Y v cs := VC.extV E.v h
theorem VCs.ext {X Y : Cx} (E : Ext X Y) {vs : List AV} {cs : List Value} (h : VCs X vs cs) : VCs Y vs cs := VCs.extV E.v h

end Lam
