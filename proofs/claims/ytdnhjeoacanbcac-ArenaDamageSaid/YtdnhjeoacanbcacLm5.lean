/- What functions of the program come to, each proved from its code. -/
import Derived.Test.YtdnhjeoacanbcacLm4
import Derived.Attr
import Derived.KernelRfl
import Derived.Test.YtdnhjeoacanbcacProg
import Derived.WideLaws
namespace Lam
open Go
set_option linter.unusedVariables false
set_option linter.unnecessarySimpa false
set_option linter.unusedSimpArgs false
structure Rc where
  kind : Int
  key : Bytes
  val : Bytes
  child : Int
  deriving DecidableEq
def Rc.V (x : Rc) : AV := .agg [.int .i64 x.kind, .str x.key, .str x.val, .int .i64 x.child]
attribute [go_sem] Rc.V
def Rc.ok (x : Rc) : Prop := (x.kind = 1 ∧ x.key ≠ [] ∧ x.key.length ≤ 21 ∧ x.val.length ≤ 21 ∧ x.child = 0) ∨ (x.kind = 2 ∧ x.key.length ≤ 21 ∧ x.val = [] ∧ 0 < x.child ∧ x.child < 256)
def keyB (s : Bytes) : Bool := decide (s ≠ []) && decide ((s.length : Int) ≤ 21)
def recB (x : Rc) : Bool := (decide (x.kind = 1) && (keyB x.key && decide ((x.val.length : Int) ≤ 21) && decide (x.child = 0))) || (decide (x.kind = 2) && ((decide (x.key = []) || keyB x.key) && decide (x.val = []) && decide (0 < x.child) && decide (x.child < 256)))
theorem rec_iff {x : Rc} : recB x = true ↔ x.ok := by
  unfold recB Rc.ok keyB
  simp only [Bool.or_eq_true, Bool.and_eq_true, decide_eq_true_eq]
  constructor
  · rintro (⟨h1, ⟨⟨h2, h3⟩, h4⟩, h5⟩ | ⟨h1, ⟨⟨h2, h3⟩, h4⟩, h5⟩)
    · exact .inl ⟨h1, h2, by omega, by omega, h5⟩
    · refine .inr ⟨h1, ?_, h3, h4, h5⟩
      rcases h2 with h | h
      · rw [h]; exact Nat.zero_le _
      · omega
  · rintro (⟨h1, h2, h3, h4, h5⟩ | ⟨h1, h2, h3, h4, h5⟩)
    · exact .inl ⟨h1, ⟨⟨h2, by omega⟩, by omega⟩, h5⟩
    · refine .inr ⟨h1, ⟨⟨?_, h3⟩, h4⟩, h5⟩
      by_cases e : x.key = []
      · exact .inl e
      · exact .inr ⟨e, by omega⟩
theorem Rc.ok.key {x : Rc} (h : x.ok) : x.key.length ≤ 21 := by rcases h with h | h; exact h.2.2.1; exact h.2.1
theorem Rc.ok.val {x : Rc} (h : x.ok) : x.val.length ≤ 21 := by
  rcases h with h | h
  · exact h.2.2.2.1
  · rw [h.2.2.1]; exact Nat.zero_le _
/-- three words -/
def threeI (s : Bytes) : List Int := keyW s ++ List.replicate (3 - (keyW s).length) 0
theorem three_len {s : Bytes} (h : s.length ≤ 21) : (threeI s).length = 3 := by
  have h1 : (keyW s).length = nPieces s := keyW_len s
  have h2 : nPieces s = (s.length + 6) / 7 := rfl
  simp [threeI]; omega
def restR (x : Rc) : List Int := threeI x.key ++ ((if x.kind = 2 then [x.child, 0, 0] else threeI x.val) ++ List.replicate 7 0)
def lensR (x : Rc) : Int := 32 * (x.key.length : Int) + (x.val.length : Int)
def formR (x : Rc) : List Int := x.kind :: lensR x :: sumOf (x.kind :: lensR x :: restR x) :: restR x
theorem rest_len {x : Rc} (h : x.ok) : (restR x).length = 13 := by
  have h1 := three_len h.key
  have h2 := three_len h.val
  unfold restR
  split <;> simp [h1, h2]
theorem form_len {x : Rc} (h : x.ok) : (formR x).length = 16 := by
  have := rest_len h
  simp [formR, this]
theorem textS_key (s : Bytes) (h : s.length ≤ 21) : textB ((threeI s).take ((s.length + 6) / 7)) s.length = true ∧ textS ((threeI s).take ((s.length + 6) / 7)) s.length = s := by
  have h1 : (keyW s).length = (s.length + 6) / 7 := keyW_len s
  have : (threeI s).take ((s.length + 6) / 7) = keyW s := by
    unfold threeI; exact List.take_left' h1
  rw [this]
  exact text_words s (by omega)
/-- a text's words, from a place on -/
def txtB (w : List Int) (at_ : Nat) (n : Int) : Bool := decide (0 ≤ n) && decide (n ≤ 21) && textB ((w.drop at_).take ((n.toNat + 6) / 7)) n
def txtS (w : List Int) (at_ : Nat) (n : Int) : Bytes := if txtB w at_ n = true then textS ((w.drop at_).take ((n.toNat + 6) / 7)) n else []
theorem form_key {x : Rc} (h : x.ok) : txtB (formR x) 3 (x.key.length : Int) = true ∧ txtS (formR x) 3 (x.key.length : Int) = x.key := by
  have hk := h.key
  have h3 := three_len hk
  have e : ((formR x).drop 3).take ((x.key.length + 6) / 7) = (threeI x.key).take ((x.key.length + 6) / 7) := by
    show (threeI x.key ++ _).take _ = _
    exact List.take_append_of_le_length (by rw [h3]; omega)
  have ht := textS_key x.key hk
  have hb : txtB (formR x) 3 (x.key.length : Int) = true := by
    unfold txtB
    rw [Int.toNat_natCast, e, ht.1, decide_eq_true (by omega), decide_eq_true (by omega)]; rfl
  refine ⟨hb, ?_⟩
  unfold txtS
  rw [if_pos hb, Int.toNat_natCast, e]; exact ht.2
theorem form_val {x : Rc} (h : x.ok) (h1 : x.kind = 1) : txtB (formR x) 6 (x.val.length : Int) = true ∧ txtS (formR x) 6 (x.val.length : Int) = x.val := by
  have hk := three_len h.key
  have hv := h.val
  have h3 := three_len hv
  have e : ((formR x).drop 6).take ((x.val.length + 6) / 7) = (threeI x.val).take ((x.val.length + 6) / 7) := by
    have : (formR x).drop 6 = threeI x.val ++ List.replicate 7 0 := by
      show (threeI x.key ++ _).drop 3 = _
      rw [List.drop_left' hk, if_neg (by rw [h1]; decide)]
    rw [this]
    exact List.take_append_of_le_length (by rw [h3]; omega)
  have ht := textS_key x.val hv
  have hb : txtB (formR x) 6 (x.val.length : Int) = true := by
    unfold txtB
    rw [Int.toNat_natCast, e, ht.1, decide_eq_true (by omega), decide_eq_true (by omega)]; rfl
  refine ⟨hb, ?_⟩
  unfold txtS
  rw [if_pos hb, Int.toNat_natCast, e]; exact ht.2
theorem form_child {x : Rc} (h : x.ok) (h2 : x.kind = 2) : (formR x).getD 6 0 = x.child := by
  have hk := three_len h.key
  show (threeI x.key ++ _).getD 3 0 = _
  rw [getD_append_right _ _ _ _ (by omega), hk, if_pos h2]; rfl
/-- a record's, of its words -/
def decC (w : List Int) : Rc := ⟨w.getD 0 0, txtS w 3 (w.getD 1 0 / 32), if w.getD 0 0 = 1 then txtS w 6 (w.getD 1 0 % 32) else [], if w.getD 0 0 = 2 then w.getD 6 0 else 0⟩
theorem form_lens {x : Rc} (h : x.ok) : lensR x / 32 = x.key.length ∧ lensR x % 32 = x.val.length ∧ 0 ≤ lensR x ∧ lensR x ≤ 693 := by
  have := h.key; have := h.val
  unfold lensR; omega
theorem decC_form {x : Rc} (h : x.ok) : decC (formR x) = x := by
  have e0 : (formR x).getD 0 0 = x.kind := rfl
  have e1 : (formR x).getD 1 0 = lensR x := rfl
  have hl := form_lens h
  unfold decC
  rw [e0, e1, hl.1, hl.2.1, (form_key h).2]
  have h' := h
  rcases h with ⟨h1, _, _, _, h5⟩ | ⟨h1, _, h3, _, _⟩
  · rw [if_pos h1, if_neg (by rw [h1]; decide), (form_val h' h1).2]
    cases x; simp only at *; simp only [h5]
  · rw [if_neg (by rw [h1]; decide), if_pos h1, form_child h' h1]
    cases x; simp only at *; simp only [h3]
theorem form_inj {x y : Rc} (hx : x.ok) (hy : y.ok) (h : formR x = formR y) : x = y := by
  rw [← decC_form hx, ← decC_form hy, h]
def readC (d : List Int → Rc) (w : List Int) : Option Rc := if (recB (d w) && decide (formR (d w) = w)) = true then some (d w) else none
theorem readC_some {d : List Int → Rc} {w : List Int} {n : Rc} (h : readC d w = some n) : n.ok ∧ formR n = w := by
  unfold readC at h
  split at h
  · rename_i hc
    rw [Bool.and_eq_true, decide_eq_true_eq] at hc
    cases h
    exact ⟨rec_iff.1 hc.1, hc.2⟩
  · cases h
theorem readC_ok {d : List Int → Rc} (hd : ∀ n, n.ok → d (formR n) = n) {n : Rc} (h : n.ok) : readC d (formR n) = some n := by
  unfold readC
  rw [hd n h, rec_iff.2 h, decide_eq_true rfl]; rfl
theorem readC_eq {d d' : List Int → Rc} (hd : ∀ n, n.ok → d (formR n) = n) (hd' : ∀ n, n.ok → d' (formR n) = n) (w : List Int) : readC d w = readC d' w := by
  cases h : readC d w with
  | some n =>
    obtain ⟨h1, rfl⟩ := readC_some h
    rw [readC_ok hd' h1]
  | none =>
    cases h' : readC d' w with
    | none => rfl
    | some n =>
      obtain ⟨h1, rfl⟩ := readC_some h'
      rw [readC_ok hd h1] at h; cases h
def recOf (w : List Int) : Option Rc := readC decC w
theorem recOf_form {x : Rc} (h : x.ok) : recOf (formR x) = some x := readC_ok (fun n h => decC_form h) h
theorem recOf_some {w : List Int} {x : Rc} (h : recOf w = some x) : x.ok ∧ formR x = w := readC_some h
/-- what is read must be as it would be laid -/
theorem recOf_none {w : List Int} (h : ∀ x : Rc, x.ok → formR x ≠ w) : recOf w = none := by
  cases e : recOf w with
  | none => rfl
  | some x => exact absurd (recOf_some e).2 (h x (recOf_some e).1)
def zeroRc : Rc := ⟨0, [], [], 0⟩
def stepsR (b : Int) (l : List Int) : List Mic := ((List.range 16).map fun i => ⟨1, 16 * b + i, l.getD i 0⟩) ++ [⟨2, 2 * b, 0⟩, ⟨2, 2 * b + 1, 0⟩]
end Lam
namespace Lam
open Go
set_option linter.unusedVariables false
set_option linter.unusedSimpArgs false
def nodeO (w : List Int) (b : Int) : Option Nd := if (decide (b < 0) || decide (((w.length / 16 : Nat) : Int) ≤ b)) = true then none else readN (blockAt w b.toNat)
def recO (w : List Int) (b : Int) : Option Rc := if (decide (b < 0) || decide (((w.length / 16 : Nat) : Int) ≤ b)) = true then none else recOf (blockAt w b.toNat)
theorem nodeO_some {w : List Int} {b : Int} {n : Nd} (h : nodeO w b = some n) : n.ok ∧ 0 ≤ b ∧ b < ((w.length / 16 : Nat) : Int) ∧ readN (blockAt w b.toNat) = some n := by
  unfold nodeO at h
  split at h
  · cases h
  · rename_i hb
    simp only [Bool.or_eq_true, decide_eq_true_eq, not_or] at hb
    exact ⟨(readN_some h).1, by omega, by omega, h⟩
theorem recO_some {w : List Int} {b : Int} {n : Rc} (h : recO w b = some n) : n.ok ∧ 0 ≤ b ∧ b < ((w.length / 16 : Nat) : Int) ∧ recOf (blockAt w b.toNat) = some n := by
  unfold recO at h
  split at h
  · cases h
  · rename_i hb
    simp only [Bool.or_eq_true, decide_eq_true_eq, not_or] at hb
    exact ⟨(recOf_some h).1, by omega, by omega, h⟩
/-- from a block on, behind others -/
def chainF (w : List Int) : Nat → Int → List Int → Option (List Int)
  | 0, _, _ => none
  | m + 1, b, out => if b = 0 then some out else match nodeO w b with
    | none => none
    | some n => if n.level = 0 ∧ b ∉ out then chainF w m n.next (out ++ [b]) else none
/-- in a range, and no two alike: not more than there are -/
theorem pigeon {N : Nat} : ∀ {l : List Int}, l.Nodup → (∀ x ∈ l, 0 ≤ x ∧ x < (N : Int)) → l.length ≤ N := by
  intro l hn hx
  have h1 : (l.map Int.toNat).Nodup := by
    unfold List.Nodup at hn ⊢
    rw [List.pairwise_map]
    exact hn.imp_of_mem fun {a b} ha hb hne => by have := hx a ha; have := hx b hb; omega
  have h2 : ∀ x ∈ l.map Int.toNat, x ∈ List.range N := by
    intro x hm
    obtain ⟨y, hy, rfl⟩ := List.mem_map.1 hm
    have := hx y hy
    rw [List.mem_range]; omega
  have := List.Nodup.length_le_of_subset h1 (fun x hx => h2 x hx)
  simpa using this
theorem chainF_some {w : List Int} : ∀ (m : Nat) (b : Int) (out l : List Int), chainF w m b out = some l → out.Nodup → (∀ x ∈ out, 0 ≤ x ∧ x < ((w.length / 16 : Nat) : Int)) →
    l.Nodup ∧ (∀ x ∈ l, 0 ≤ x ∧ x < ((w.length / 16 : Nat) : Int)) ∧ ∃ r, l = out ++ r ∧ (b ≠ 0 → ∃ r', r = b :: r') ∧ ∀ x ∈ r, ∃ n, nodeO w x = some n ∧ n.level = 0
  | 0, b, out, l, h, _, _ => by cases h
  | m + 1, b, out, l, h, hn, hr => by
    simp only [chainF] at h
    split at h
    · rename_i h0
      cases h
      exact ⟨hn, hr, [], by simp, fun h => absurd h0 h, by simp⟩
    · rename_i h0
      cases hnd : nodeO w b with
      | none => rw [hnd] at h; cases h
      | some n =>
        rw [hnd] at h
        simp only at h
        split at h
        rotate_left
        · cases h
        rename_i hc
        obtain ⟨_, q0, q1, _⟩ := nodeO_some hnd
        have hn' : (out ++ [b]).Nodup := by
          rw [List.nodup_append]
          refine ⟨hn, by simp, fun a ha b' hb' => ?_⟩
          simp only [List.mem_singleton] at hb'
          subst hb'
          rintro rfl
          exact hc.2 ha
        have hr' : ∀ x ∈ out ++ [b], 0 ≤ x ∧ x < ((w.length / 16 : Nat) : Int) := by
          intro x hx
          simp only [List.mem_append, List.mem_singleton] at hx
          rcases hx with hx | rfl
          · exact hr x hx
          · exact ⟨q0, q1⟩
        obtain ⟨g1, g2, r, g3, _, g4⟩ := chainF_some m _ _ _ h hn' hr'
        refine ⟨g1, g2, b :: r, by rw [g3]; simp, fun _ => ⟨r, rfl⟩, fun x hx => ?_⟩
        rcases List.mem_cons.1 hx with rfl | hx
        · exact ⟨n, hnd, hc.1⟩
        · exact g4 x hx
/-- the leaves, if the first block is -/
def chainO (hb : Bool) (w : List Int) : Option (List Int) := if hb = true then chainF w (w.length / 16 + 1) 1 [] else none
theorem chainO_some {hb : Bool} {w l : List Int} (h : chainO hb w = some l) : hb = true ∧ l.Nodup ∧ (∀ x ∈ l, 0 ≤ x ∧ x < ((w.length / 16 : Nat) : Int)) ∧ l.length ≤ w.length / 16 ∧ (∃ r, l = 1 :: r) ∧ ∀ x ∈ l, ∃ n, nodeO w x = some n ∧ n.level = 0 := by
  unfold chainO at h
  split at h
  rotate_left
  · cases h
  rename_i hb
  obtain ⟨g1, g2, r, g3, g4, g5⟩ := chainF_some _ _ _ _ h List.nodup_nil (by simp)
  rw [List.nil_append] at g3
  subst g3
  exact ⟨hb, g1, g2, pigeon g1 g2, g4 (by decide), g5⟩
def lowO (w : List Int) (n : Nd) : Option Bytes := if n.low = 0 then some [] else (recO w n.low).map (·.key)
/-- a leaf's slots, from a key on -/
def slotsB (w : List Int) (low : Bytes) : List Int → Nat → Bytes → Bool
  | [], _, _ => true
  | s :: r, k, last => match recO w s with
    | none => false
    | some x => decide (x.kind = 1) && !ltB x.key low && (decide (k = 0) || ltB last x.key) && slotsB w low r (k + 1) (if ltB last x.key then x.key else last)
def leafO (w : List Int) (i : Nat) (last : Bytes) (b : Int) : Option Bytes :=
  match nodeO w b with
  | none => none
  | some n => match lowO w n with
    | none => none
    | some low => if ((decide (i = 0) && decide (n.low = 0)) || (decide (0 < i) && ltB last low)) && slotsB w low (plain n.slots) 0 low then some low else none
def leavesB (w : List Int) : List Int → Nat → Bytes → Bool
  | [], _, _ => true
  | b :: r, i, last => match leafO w i last b with
    | none => false
    | some low => leavesB w r (i + 1) low
def lookO (hb : Bool) (w : List Int) : Option (List Int) :=
  match chainO hb w with
  | none => none
  | some l => if leavesB w l 0 [] = true then some l else none
/-- what a node reaches, beside what was reached -/
def markN (m : Int → Bool) (n : Nd) (b : Int) : Int → Bool := fun k => m k || decide (k = b) || (!decide (n.low = 0) && decide (k = n.low)) || decide (k ∈ n.slots)
def marksL (w : List Int) : (Int → Bool) → List Int → (Int → Bool)
  | m, [] => m
  | m, b :: r => marksL w (markN m ((nodeO w b).getD zeroNd) b) r
def mark0 : Int → Bool := fun j => if j = 0 then true else false
/-- those of so many that are marked -/
def reached (m : Int → Bool) (n : Nat) : List Int := ((List.range n).map fun k : Nat => (k : Int)).filter m
theorem marksL_snoc (w : List Int) : ∀ (l : List Int) (m : Int → Bool) (b : Int), marksL w m (l ++ [b]) = markN (marksL w m l) ((nodeO w b).getD zeroNd) b
  | [], m, b => rfl
  | a :: l, m, b => by simp only [List.cons_append, marksL]; exact marksL_snoc w l _ b
theorem reached_next (m : Int → Bool) (n : Nat) : reached m (n + 1) = if m (n : Int) = true then reached m n ++ [(n : Int)] else reached m n := by
  unfold reached
  rw [List.range_succ, List.map_append, List.filter_append]
  cases h : m (n : Int) <;> simp [h]
theorem reached_len (m : Int → Bool) (n : Nat) : (reached m n).length ≤ n := by
  unfold reached
  refine Nat.le_trans (List.length_filter_le _ _) ?_
  simp
end Lam
namespace Lam
open Go Go.Proofs
set_option linter.unusedVariables false
def T_unit : TyD := (.tup [])
def T_func : TyD := .func
def T_int64 : TyD := (.int .i64)
def T_int : TyD := (.int .i64)
def T_bool : TyD := .bool
def T_uint8 : TyD := (.int .u8)
def T_struct_x_int64_y_int_signed_bool_code_abi_BoundsErrorCode : TyD := (.strct [(.int .i64), (.int .i64), .bool, (.int .u8)])
def T_string : TyD := .str
def T_interface : TyD := .iface
def T_sl_int : TyD := (.slice (.int .i64))
def T_api_Errno : TyD := (.int .i64)
def T_sl_int_api_Errno : TyD := (.tup [(.slice (.int .i64)), (.int .i64)])
def T_funcint_bool : TyD := .func
def T_string_api_Errno : TyD := (.tup [.str, (.int .i64)])
def T_uint32 : TyD := (.int .u32)
def T_api_Node : TyD := (.strct [(.int .i64), (.int .i64), (.int .i64), (.int .i64), (.slice (.int .i64))])
def T_api_Node_api_Errno : TyD := (.tup [(.strct [(.int .i64), (.int .i64), (.int .i64), (.int .i64), (.slice (.int .i64))]), (.int .i64)])
def T_uint64 : TyD := (.int .u64)
def T_uint : TyD := (.int .u64)
def T_api_Seek : TyD := (.strct [(.int .i64), (.int .i64), (.int .i64), (.slice (.int .i64)), .bool])
def T_api_Seek_api_Errno : TyD := (.tup [(.strct [(.int .i64), (.int .i64), (.int .i64), (.slice (.int .i64)), .bool]), (.int .i64)])
def T_sl_api_Rec : TyD := (.slice .rcd)
def T_api_Rec : TyD := (.strct [(.int .i64), .str, .str, (.int .i64)])
def T_api_Rec_api_Errno : TyD := (.tup [(.strct [(.int .i64), .str, .str, (.int .i64)]), (.int .i64)])
def T_sl_bool : TyD := (.slice .bool)
def T_sl_api_Micro : TyD := (.slice .mic)
def T_sl_api_Micro_api_Errno : TyD := (.tup [(.slice .mic), (.int .i64)])
def T_sl_api_Pending : TyD := (.slice .pend)
def T_api_Mem : TyD := (.strct [(.slice (.int .i64)), (.slice (.int .i64)), (.slice .pend)])
def T_api_Mem_api_Errno : TyD := (.tup [(.strct [(.slice (.int .i64)), (.slice (.int .i64)), (.slice .pend)]), (.int .i64)])
def T_api_Seek_bool : TyD := (.tup [(.strct [(.int .i64), (.int .i64), (.int .i64), (.slice (.int .i64)), .bool]), .bool])
def T_p_arena_reach : TyD := .ptr
def T_map_int_bool : TyD := (.map .ib)
def T_arena_reach : TyD := (.strct [(.slice (.int .i64)), (.map .ib), (.map .ib)])
def T_int_int_api_Errno : TyD := (.tup [(.int .i64), (.int .i64), (.int .i64)])
def T_p_seek_look : TyD := .ptr
def T_seek_look : TyD := (.strct [(.strct [(.int .i64), (.int .i64), (.int .i64), (.slice (.int .i64)), .bool]), (.int .i64)])
def T_map_string_bool : TyD := (.map .sb)
def T_func_api_Rec_api_Rec_int : TyD := .func
def T_rec_form : TyD := (.arr 16 (.int .i64))
def T_string_bool : TyD := (.tup [.str, .bool])
def T_sl_fast_slot : TyD := (.slice .slot)
def T_fast_slot : TyD := (.strct [(.int .i64), (.int .i64)])
def T_api_Micro : TyD := (.strct [(.int .i64), (.int .i64), (.int .i64)])
def T_super_head : TyD := (.strct [(.int .i64), (.int .i64), (.int .i64), (.int .i64)])
def T_arena_corrupt : TyD := (.strct [])
def T_funcstring_bool : TyD := .func
def T_slices_sortedHint : TyD := (.int .i64)
def T_int_slices_sortedHint : TyD := (.tup [(.int .i64), (.int .i64)])
def T_int_bool : TyD := (.tup [(.int .i64), .bool])
def T_sl_uint8 : TyD := (.slice (.int .u8))
def T_func_funcstring_bool : TyD := .func
def T_iter_Seq_string : TyD := .func
def T_funcapi_Micro_bool : TyD := .func
def T_256_uint32 : TyD := (.arr 256 (.int .u32))
def T_p_256_uint32 : TyD := .ptr
def T_slices_xorshift : TyD := (.int .u64)
def T_p_int : TyD := .ptr
def T_map_int_int : TyD := (.map .ii)
def T_p_micro_doer : TyD := .ptr
def T_micro_doer : TyD := (.strct [(.strct [(.slice (.int .i64)), (.slice (.int .i64)), (.slice .pend)])])
def T_map_int_func_p_micro_doer_api_Micro : TyD := (.map .ifn)
def T_func_p_micro_doer_api_Micro : TyD := .func
def T_p_slices_xorshift : TyD := .ptr
def T_int_int : TyD := (.tup [(.int .i64), (.int .i64)])
def T_api_Pending : TyD := (.strct [(.int .i64), (.int .i64), .bool])
def T_func_funcint_bool : TyD := .func
def T_iter_Seq_int : TyD := .func
def T_funcapi_Pending_bool : TyD := .func
attribute [go_sem] T_unit T_func T_int64 T_int T_bool T_uint8 T_struct_x_int64_y_int_signed_bool_code_abi_BoundsErrorCode T_string T_interface T_sl_int T_api_Errno T_sl_int_api_Errno T_funcint_bool T_string_api_Errno T_uint32 T_api_Node T_api_Node_api_Errno T_uint64 T_uint T_api_Seek T_api_Seek_api_Errno T_sl_api_Rec T_api_Rec T_api_Rec_api_Errno T_sl_bool T_sl_api_Micro T_sl_api_Micro_api_Errno T_sl_api_Pending T_api_Mem T_api_Mem_api_Errno T_api_Seek_bool T_p_arena_reach T_map_int_bool T_arena_reach T_int_int_api_Errno T_p_seek_look T_seek_look T_map_string_bool T_func_api_Rec_api_Rec_int T_rec_form T_string_bool T_sl_fast_slot T_fast_slot T_api_Micro T_super_head T_arena_corrupt T_funcstring_bool T_slices_sortedHint T_int_slices_sortedHint T_int_bool T_sl_uint8 T_func_funcstring_bool T_iter_Seq_string T_funcapi_Micro_bool T_256_uint32 T_p_256_uint32 T_slices_xorshift T_p_int T_map_int_int T_p_micro_doer T_micro_doer T_map_int_func_p_micro_doer_api_Micro T_func_p_micro_doer_api_Micro T_p_slices_xorshift T_int_int T_api_Pending T_func_funcint_bool T_iter_Seq_int T_funcapi_Pending_bool
def tab : TypeId → TyD
  | 0 => T_unit
  | 1 => T_func
  | 2 => T_int64
  | 3 => T_int
  | 4 => T_bool
  | 5 => T_uint8
  | 7 => T_struct_x_int64_y_int_signed_bool_code_abi_BoundsErrorCode
  | 9 => T_string
  | 20 => T_interface
  | 23 => T_sl_int
  | 24 => T_api_Errno
  | 25 => T_sl_int_api_Errno
  | 30 => T_funcint_bool
  | 33 => T_string_api_Errno
  | 35 => T_uint32
  | 37 => T_api_Node
  | 38 => T_api_Node_api_Errno
  | 40 => T_uint64
  | 41 => T_uint
  | 45 => T_api_Seek
  | 46 => T_api_Seek_api_Errno
  | 52 => T_sl_api_Rec
  | 59 => T_api_Rec
  | 60 => T_api_Rec_api_Errno
  | 62 => T_sl_bool
  | 63 => T_sl_api_Micro
  | 64 => T_sl_api_Micro_api_Errno
  | 66 => T_sl_api_Pending
  | 68 => T_api_Mem
  | 69 => T_api_Mem_api_Errno
  | 71 => T_api_Seek_bool
  | 81 => T_p_arena_reach
  | 82 => T_map_int_bool
  | 84 => T_arena_reach
  | 87 => T_int_int_api_Errno
  | 94 => T_p_seek_look
  | 96 => T_seek_look
  | 97 => T_map_string_bool
  | 100 => T_func_api_Rec_api_Rec_int
  | 103 => T_rec_form
  | 104 => T_string_bool
  | 109 => T_sl_fast_slot
  | 111 => T_fast_slot
  | 115 => T_api_Micro
  | 117 => T_super_head
  | 120 => T_arena_corrupt
  | 126 => T_funcstring_bool
  | 135 => T_slices_sortedHint
  | 136 => T_int_slices_sortedHint
  | 140 => T_int_bool
  | 144 => T_sl_uint8
  | 145 => T_func_funcstring_bool
  | 146 => T_iter_Seq_string
  | 150 => T_funcapi_Micro_bool
  | 153 => T_256_uint32
  | 156 => T_p_256_uint32
  | 157 => T_slices_xorshift
  | 161 => T_p_int
  | 165 => T_map_int_int
  | 167 => T_p_micro_doer
  | 169 => T_micro_doer
  | 170 => T_map_int_func_p_micro_doer_api_Micro
  | 172 => T_func_p_micro_doer_api_Micro
  | 174 => T_p_slices_xorshift
  | 175 => T_int_int
  | 179 => T_api_Pending
  | 189 => T_func_funcint_bool
  | 190 => T_iter_Seq_int
  | 193 => T_funcapi_Pending_bool
  | _ => .other
theorem tab_ok : TabOk Try.prog tab := by
  intro T
  unfold tab
  split <;> kernel_rfl
theorem tab_sh (T : TypeId) : (tab T).shallow := by
  unfold tab
  split <;> (unfold TyD.shallow; decide)
theorem mixed : Try.prog.follows .mixedOrders = true := by kernel_rfl
def ctx (F : List (FuncId × Contract)) (S : List (FuncId × Con)) (lp : Nat → LInfo) : Ctx := ⟨tab, lookF F, lookS S, fun _ _ _ _ _ => False, lp, false, fun _ _ _ _ => False⟩
def ctxI (F : List (FuncId × Contract)) (S : List (FuncId × Con)) (Is : List (FuncId × (Con → Con))) (lp : Nat → LInfo) : Ctx := ⟨tab, lookF F, lookS S, lookI Is, lp, false, fun _ _ _ _ => False⟩
@[go_sem] theorem ctx_drawn (F : List (FuncId × Contract)) (S : List (FuncId × Con)) (lp : Nat → LInfo) : (ctx F S lp).drawn = false := (rfl)
@[go_sem] theorem ctxI_drawn (F : List (FuncId × Contract)) (S : List (FuncId × Con)) (Is : List (FuncId × (Con → Con))) (lp : Nat → LInfo) : (ctxI F S Is lp).drawn = false := (rfl)
@[go_sem] theorem ctxI_envF (F : List (FuncId × Contract)) (S : List (FuncId × Con)) (Is : List (FuncId × (Con → Con))) (lp : Nat → LInfo) : (ctxI F S Is lp).envF = lookF F := (rfl)
@[go_sem] theorem ctxI_envS (F : List (FuncId × Contract)) (S : List (FuncId × Con)) (Is : List (FuncId × (Con → Con))) (lp : Nat → LInfo) : (ctxI F S Is lp).envS = lookS S := (rfl)
@[go_sem] theorem ctxI_iterS (F : List (FuncId × Contract)) (S : List (FuncId × Con)) (Is : List (FuncId × (Con → Con))) (lp : Nat → LInfo) : (ctxI F S Is lp).iterS = lookI Is := (rfl)
@[go_sem] theorem ctx_envF (F : List (FuncId × Contract)) (S : List (FuncId × Con)) (lp : Nat → LInfo) : (ctx F S lp).envF = lookF F := (rfl)
@[go_sem] theorem ctx_envS (F : List (FuncId × Contract)) (S : List (FuncId × Con)) (lp : Nat → LInfo) : (ctx F S lp).envS = lookS S := (rfl)
theorem ctx_ok {F : List (FuncId × Contract)} {S : List (FuncId × Con)} (hF : ∀ p ∈ F, FSpec Try.prog p.1 p.2) (hS : ∀ p ∈ S, SSpec Try.prog p.1 p.2) (lp : Nat → LInfo) : Ok Try.prog (ctx F S lp) :=
  ⟨⟨⟨tab_ok, tab_sh, fok_look hF⟩, sok_look hS, rfl, mixed, is_none⟩, fun _ _ _ _ h => h⟩
theorem ctxI_ok {F : List (FuncId × Contract)} {S : List (FuncId × Con)} {Is : List (FuncId × (Con → Con))} (hF : ∀ p ∈ F, FSpec Try.prog p.1 p.2) (hS : ∀ p ∈ S, SSpec Try.prog p.1 p.2) (hI : ∀ p ∈ Is, ISpec Try.prog p.1 p.2) (lp : Nat → LInfo) : Ok Try.prog (ctxI F S Is lp) :=
  ⟨⟨⟨tab_ok, tab_sh, fok_look hF⟩, sok_look hS, rfl, mixed, isok_look hI⟩, fun _ _ _ _ h => h⟩
end Lam
namespace Lam
open Go Go.Proofs
set_option linter.unusedVariables false
def arena_New.loops : Nat → LInfo
  | 1 => ⟨[], [], [], [(3, none), (2, some [11, 13])], [], []⟩
  | _ => ⟨[], [], [], [], [], []⟩
def arena_New.H (c : Ctx) (t0 : AV) (h : List AObj) (K : AOut → List AObj → Prop) : Prop :=
  runD (binD T_int .lss t0 (.int .i64 2)) h fun t10 h =>
  joinW (fun (J1 : AV → AV → List AObj → Prop) =>
  guardW t10 false
  (runD (binD T_int .gtr t0 (.int .i64 256)) h fun t13 h =>
    J1 (.bool false) t13 h)
  (J1 (.bool true) .und h))
  (fun t11 t13 h => runD (pickD t11 (.bool true) t13) h fun t14 h =>
  condW t14
  (K (.ret (.tup [(.sl true (.ints .i64 [])), (.int .i64 1)])) h)
  (callW false c (.fn (.func 48) [] []) [t0, (.int .i64 1)] h (fun t17 h =>
  runD (extractD t17 0) h fun t18 h =>
  runD (extractD t17 1) h fun t19 h =>
  runD (buildD T_api_Node []) h fun t21 h =>
  callW false c (.fn (.func 35) [] []) [t21] h (fun t22 h =>
  runD (extractD t22 0) h fun t23 h =>
  runD (extractD t22 1) h fun t24 h =>
  runD (binD T_int .mul (.int .i64 16) t0) h fun t26 h =>
  runD (makeSliceD T_sl_int t26 t26 h.length) h fun t27 h =>
  runM (copyH T_sl_int h t27 t18) h fun t30 h =>
  runD (sliceD T_sl_int h t27 (some (.int .i64 16)) none none) h fun t32 h =>
  runM (copyH T_sl_int h t32 t23) h fun t34 h =>
  K (.ret (.tup [t27, (.int .i64 0)])) h)
  (fun v h => K (.pan v) h))
  (fun v h => K (.pan v) h)))
def arena_Leaves.loops : Nat → LInfo
  | _ => ⟨[], [], [], [], [], []⟩
def arena_Leaves.H (c : Ctx) (t0 : AV) (h : List AObj) (K : AOut → List AObj → Prop) : Prop :=
  allocW T_api_Errno h fun t3 h =>
  defX t3 fun dp =>
  callW false c (.fn (.func 50) [] []) [t0] h (fun t5 h =>
  runH (storeH T_api_Errno h t3 (.int .i64 0)) h fun _ h =>
  loadRes (fitD T_api_Errno (loadD h t3)) fun r1 => K (.ret (.tup [t5, r1])) h)
  (fun v h => toldW 120 110 v dp h fun h => loadRes (fitD T_api_Errno (loadD h t3)) fun r1 => K (.ret (.tup [(.sl true (.ints .i64 [])), r1])) h)
def arena_Reach.loops : Nat → LInfo
  | 4 => ⟨[20], [false], [0, 3, 4, 18, 19], [], [], [2]⟩
  | 11 => ⟨[2, 41], [true, false], [3, 4, 40], [], [], []⟩
  | _ => ⟨[], [], [], [], [], []⟩
def arena_Reach.L1 (c : Ctx) (dp : Nat) (J1 : AV → AV → AV → AV → List AObj → Prop) (K : AOut → List AObj → Prop) (lv : List AV) (h0 : List AObj) (n0 : Nat) (c0 : AV) (c3 : AV) (c4 : AV) (c18 : AV) (c19 : AV) (c2 : AV) : Prop :=
  ∃ I : Nat → List AV → List AObj → Prop, (∃ n, I n lv h0) ∧ ∀ n h, ∀ t20, I n [t20] h →
    runD (binD T_int .lss t20 c19) h fun t21 h =>
    condW t21
    (runD (indexAddrD T_sl_int h c18 t20) h fun t22 h =>
    runD (fitD T_int (loadD h t22)) h fun t23 h =>
    callW false c (.fn (.func 53) [] []) [c0, t23] h (fun t27 h =>
    callW false c (.fn (.func 52) [] []) [c4, t27, t23] h (fun t29 h =>
    runD (binD T_int .add t20 (.int .i64 1)) h fun t30 h =>
    ((∃ m, m < n ∧ I m (AV.norms n0 h [t30]) (normH n0 h)) ∧ AV.norms n0 h [c0, c3, c4, c18, c19] = [c0, c3, c4, c18, c19]) ∧ [c2] = [c2])
    (fun v h => toldW 120 110 v dp h fun h => loadRes (fitD T_api_Errno (loadD h c3)) fun r1 => K (.ret (.tup [c2, r1])) h))
    (fun v h => toldW 120 110 v dp h fun h => loadRes (fitD T_api_Errno (loadD h c3)) fun r1 => K (.ret (.tup [c2, r1])) h))
    (J1 c0 c2 c3 c4 h)
def arena_Reach.L2 (c : Ctx) (dp : Nat) (J2 : AV → AV → List AObj → Prop) (K : AOut → List AObj → Prop) (lv : List AV) (h0 : List AObj) (n0 : Nat) (c3 : AV) (c4 : AV) (c40 : AV) : Prop :=
  ∃ I : Nat → List AV → List AObj → Prop, (∃ n, I n lv h0) ∧ ∀ n h, ∀ t2, ∀ t41, I n [t2, t41] h →
    runD (binD T_int .lss t41 c40) h fun t42 h =>
    condW t42
    (runD (nilCheckD c4) h fun t45 h =>
    runD (fieldAddrD T_arena_reach t45 1) h fun t46 h =>
    runD (fitD T_map_int_bool (loadD h t46)) h fun t47 h =>
    runD (lookupD T_map_int_bool h t47 t41) h fun t49 h =>
    joinW (fun (J3 : AV → List AObj → Prop) =>
    condW t49
    (runD (buildSliceD T_sl_int 1 [(0, t41)] h.length) h fun t52 h =>
      runDM (appendD T_sl_int h t2 t52 h.length) (appendH T_sl_int h t2 t52) h fun t53 h =>
      J3 t53 h)
    (J3 t2 h))
    (fun t2 h => runD (binD T_int .add t41 (.int .i64 1)) h fun t54 h =>
    (∃ m, m < n ∧ I m (AV.norms n0 h [t2, t54]) (normH n0 h)) ∧ AV.norms n0 h [c3, c4, c40] = [c3, c4, c40]))
    (J2 t2 c3 h)
def arena_Reach.H (c : Ctx) (t0 : AV) (h : List AObj) (K : AOut → List AObj → Prop) : Prop :=
  allocW T_api_Errno h fun t3 h =>
  defX t3 fun dp =>
  runD (makeMapD T_map_int_bool h.length) h fun t12 h =>
  runH (mapSetH T_map_int_bool h t12 (.int .i64 0) (.bool true)) h fun _ h =>
  runD (makeMapD T_map_int_bool h.length) h fun t14 h =>
  runD (buildD T_arena_reach [(0, t0), (1, t12), (2, t14)]) h fun t15 h =>
  boxW T_arena_reach t15 h fun t16 h =>
  callW false c (.fn (.func 51) [] []) [t0] h (fun t18 h =>
  runD (lenD T_sl_int h t18) h fun t19 h =>
  joinW (fun (J1 : AV → AV → AV → AV → List AObj → Prop) =>
  promV [false] [(.int .i64 0)] h fun lv h => AV.closeds [(.sl true (.ints .i64 []))] = true ∧ arena_Reach.L1 c dp J1 K (AV.norms h.length h lv) (normH h.length h) h.length (AV.norm h.length h t0) (AV.norm h.length h t3) (AV.norm h.length h t16) (AV.norm h.length h t18) (AV.norm h.length h t19) (.sl true (.ints .i64 [])))
  (fun t0 t2 t3 t4 h => callW false c (.fn (.func 54) [] []) [t0] h (fun t33 h =>
  runD (extractD t33 0) h fun t34 h =>
  runD (extractD t33 1) h fun t35 h =>
  runD (extractD t33 2) h fun t36 h =>
  callW false c (.fn (.func 55) [] []) [t4, t35, (.fn (.func 56) [] [])] h (fun t39 h =>
  joinW (fun (J2 : AV → AV → List AObj → Prop) =>
  promV [true, false] [t2, (.int .i64 0)] h fun lv h => arena_Reach.L2 c dp J2 K (AV.norms h.length h lv) (normH h.length h) h.length (AV.norm h.length h t3) (AV.norm h.length h t4) (AV.norm h.length h t34))
  (fun t2 t3 h => runH (storeH T_api_Errno h t3 (.int .i64 0)) h fun _ h =>
  loadRes (fitD T_api_Errno (loadD h t3)) fun r1 => K (.ret (.tup [t2, r1])) h))
  (fun v h => toldW 120 110 v dp h fun h => loadRes (fitD T_api_Errno (loadD h t3)) fun r1 => K (.ret (.tup [t2, r1])) h))
  (fun v h => toldW 120 110 v dp h fun h => loadRes (fitD T_api_Errno (loadD h t3)) fun r1 => K (.ret (.tup [t2, r1])) h)))
  (fun v h => toldW 120 110 v dp h fun h => loadRes (fitD T_api_Errno (loadD h t3)) fun r1 => K (.ret (.tup [(.sl true (.ints .i64 [])), r1])) h)
def arena_Check.loops : Nat → LInfo
  | _ => ⟨[], [], [], [], [], []⟩
def arena_Check.H (c : Ctx) (t0 : AV) (h : List AObj) (K : AOut → List AObj → Prop) : Prop :=
  allocW T_api_Errno h fun t2 h =>
  defX t2 fun dp =>
  callW false c (.fn (.func 51) [] []) [t0] h (fun t4 h =>
  runH (storeH T_api_Errno h t2 (.int .i64 0)) h fun _ h =>
  loadRes (fitD T_api_Errno (loadD h t2)) fun r0 => K (.ret r0) h)
  (fun v h => toldW 120 110 v dp h fun h => loadRes (fitD T_api_Errno (loadD h t2)) fun r0 => K (.ret r0) h)
def arena_Low.loops : Nat → LInfo
  | _ => ⟨[], [], [], [], [], []⟩
def arena_Low.H (c : Ctx) (t0 : AV) (t1 : AV) (h : List AObj) (K : AOut → List AObj → Prop) : Prop :=
  allocW T_api_Errno h fun t5 h =>
  defX t5 fun dp =>
  callW false c (.fn (.func 53) [] []) [t0, t1] h (fun t9 h =>
  callW false c (.fn (.func 57) [] []) [t0, t9] h (fun t10 h =>
  runH (storeH T_api_Errno h t5 (.int .i64 0)) h fun _ h =>
  loadRes (fitD T_api_Errno (loadD h t5)) fun r1 => K (.ret (.tup [t10, r1])) h)
  (fun v h => toldW 120 110 v dp h fun h => loadRes (fitD T_api_Errno (loadD h t5)) fun r1 => K (.ret (.tup [(.str []), r1])) h))
  (fun v h => toldW 120 110 v dp h fun h => loadRes (fitD T_api_Errno (loadD h t5)) fun r1 => K (.ret (.tup [(.str []), r1])) h)
def arena_chain.loops : Nat → LInfo
  | 4 => ⟨[2, 6], [true, false], [0], [], [], []⟩
  | 6 => ⟨[], [], [], [(4, none), (4, some [25, 29])], [], []⟩
  | _ => ⟨[], [], [], [], [], []⟩
def arena_chain.L1 (c : Ctx) (J1 : AV → List AObj → Prop) (K : AOut → List AObj → Prop) (lv : List AV) (h0 : List AObj) (n0 : Nat) (c0 : AV) : Prop :=
  ∃ I : Nat → List AV → List AObj → Prop, (∃ n, I n lv h0) ∧ ∀ n h, ∀ t2, ∀ t6, I n [t2, t6] h →
    runD (binD T_int .neq t6 (.int .i64 0)) h fun t18 h =>
    condW t18
    (callW false c (.fn (.func 53) [] []) [c0, t6] h (fun t21 h =>
    allocW T_api_Node h fun t7 h =>
    runH (storeH T_api_Node h t7 t21) h fun _ h =>
    runD (fieldAddrD T_api_Node t7 0) h fun t22 h =>
    runD (fitD T_int (loadD h t22)) h fun t23 h =>
    runD (binD T_int .eql t23 (.int .i64 0)) h fun t24 h =>
    joinW (fun (J2 : AV → AV → List AObj → Prop) =>
    guardW t24 true
    (callW false c (.fn (.func 83) [] []) [t2, t6] h (fun t28 h =>
      runD (unD .not t28) h fun t29 h =>
      J2 (.bool true) t29 h)
      (fun v h => K (.pan v) h))
    (J2 (.bool false) .und h))
    (fun t25 t29 h => runD (pickD t25 t29 (.bool false)) h fun t30 h =>
    callW false c (.fn (.func 82) [] []) [t30] h (fun t31 h =>
    runD (buildSliceD T_sl_int 1 [(0, t6)] h.length) h fun t34 h =>
    runDM (appendD T_sl_int h t2 t34 h.length) (appendH T_sl_int h t2 t34) h fun t35 h =>
    runD (fieldAddrD T_api_Node t7 2) h fun t36 h =>
    runD (fitD T_int (loadD h t36)) h fun t37 h =>
    sepB t2 [t36] = true ∧ (∃ m, m < n ∧ I m (AV.norms n0 h [t35, t37]) (normH n0 h)) ∧ AV.norms n0 h [c0] = [c0])
    (fun v h => K (.pan v) h)))
    (fun v h => K (.pan v) h))
    (J1 t2 h)
def arena_chain.H (c : Ctx) (t0 : AV) (h : List AObj) (K : AOut → List AObj → Prop) : Prop :=
  callW false c (.fn (.func 54) [] []) [t0] h (fun t10 h =>
  runD (extractD t10 0) h fun t11 h =>
  runD (extractD t10 1) h fun t12 h =>
  runD (extractD t10 2) h fun t13 h =>
  runD (binD T_api_Errno .eql t13 (.int .i64 0)) h fun t15 h =>
  callW false c (.fn (.func 82) [] []) [t15] h (fun t16 h =>
  joinW (fun (J1 : AV → List AObj → Prop) =>
  promV [true, false] [(.sl true (.ints .i64 [])), (.int .i64 1)] h fun lv h => arena_chain.L1 c J1 K (AV.norms h.length h lv) (normH h.length h) h.length (AV.norm h.length h t0))
  (fun t2 h => K (.ret t2) h))
  (fun v h => K (.pan v) h))
  (fun v h => K (.pan v) h)
def arena_look.loops : Nat → LInfo
  | 4 => ⟨[4, 17], [false, false], [0, 3, 15, 16], [], [], []⟩
  | 8 => ⟨[], [], [], [(3, none), (3, some [30, 33]), (2, none), (7, some [35, 42])], [], []⟩
  | 11 => ⟨[4, 50], [false, false], [0, 3, 8, 15, 16, 17, 48, 49], [], [], []⟩
  | 14 => ⟨[], [], [], [(3, none), (3, some [63, 66]), (2, none), (4, some [68, 72]), (2, none), (8, some [74, 82])], [], []⟩
  | _ => ⟨[], [], [], [], [], []⟩
def arena_look.L2 (c : Ctx) (J6 : AV → AV → AV → AV → AV → AV → List AObj → Prop) (K : AOut → List AObj → Prop) (lv : List AV) (h0 : List AObj) (n0 : Nat) (c0 : AV) (c3 : AV) (c8 : AV) (c15 : AV) (c16 : AV) (c17 : AV) (c48 : AV) (c49 : AV) : Prop :=
  ∃ I : Nat → List AV → List AObj → Prop, (∃ n, I n lv h0) ∧ ∀ n h, ∀ t4, ∀ t50, I n [t4, t50] h →
    runD (binD T_int .lss t50 c49) h fun t51 h =>
    condW t51
    (runD (indexAddrD T_sl_int h c48 t50) h fun t53 h =>
    runD (fitD T_int (loadD h t53)) h fun t54 h =>
    callW false c (.fn (.func 37) [] []) [c0, t54] h (fun t58 h =>
    runD (extractD t58 0) h fun t59 h =>
    runD (extractD t58 1) h fun t60 h =>
    allocW T_api_Rec h fun t11 h =>
    runH (storeH T_api_Rec h t11 t59) h fun _ h =>
    runD (binD T_api_Errno .eql t60 (.int .i64 0)) h fun t62 h =>
    joinW (fun (J7 : AV → AV → List AObj → Prop) =>
    guardW t62 true
    (runD (fieldAddrD T_api_Rec t11 0) h fun t64 h =>
      runD (fitD T_int (loadD h t64)) h fun t65 h =>
      runD (binD T_int .eql t65 (.int .i64 1)) h fun t66 h =>
      J7 (.bool true) t66 h)
    (J7 (.bool false) .und h))
    (fun t63 t66 h => runD (pickD t63 t66 (.bool false)) h fun t67 h =>
    joinW (fun (J8 : AV → AV → List AObj → Prop) =>
    guardW t67 true
    (runD (fieldAddrD T_api_Rec t11 1) h fun t69 h =>
      runD (fitD T_string (loadD h t69)) h fun t70 h =>
      runD (binD T_string .geq t70 c8) h fun t72 h =>
      J8 (.bool true) t72 h)
    (J8 (.bool false) .und h))
    (fun t68 t72 h => runD (pickD t68 t72 (.bool false)) h fun t73 h =>
    joinW (fun (J9 : AV → AV → List AObj → Prop) =>
    guardW t73 true
    (runD (binD T_int .eql t50 (.int .i64 0)) h fun t76 h =>
      joinW (fun (J10 : AV → AV → List AObj → Prop) =>
      guardW t76 false
      (runD (fieldAddrD T_api_Rec t11 1) h fun t78 h =>
        runD (fitD T_string (loadD h t78)) h fun t79 h =>
        runD (binD T_string .gtr t79 t4) h fun t81 h =>
        J10 (.bool false) t81 h)
      (J10 (.bool true) .und h))
      (fun t77 t81 h => runD (pickD t77 (.bool true) t81) h fun t82 h =>
      J9 (.bool true) t82 h))
    (J9 (.bool false) .und h))
    (fun t74 t82 h => runD (pickD t74 t82 (.bool false)) h fun t83 h =>
    callW false c (.fn (.func 82) [] []) [t83] h (fun t84 h =>
    runD (fieldAddrD T_api_Rec t11 1) h fun t86 h =>
    runD (fitD T_string (loadD h t86)) h fun t87 h =>
    runD (maxD t4 t87) h fun t88 h =>
    runD (binD T_int .add t50 (.int .i64 1)) h fun t89 h =>
    (∃ m, m < n ∧ I m (AV.norms n0 h [t88, t89]) (normH n0 h)) ∧ AV.norms n0 h [c0, c3, c8, c15, c16, c17, c48, c49] = [c0, c3, c8, c15, c16, c17, c48, c49])
    (fun v h => K (.pan v) h)))))
    (fun v h => K (.pan v) h))
    (J6 c0 c3 c8 c15 c16 c17 h)
def arena_look.L1 (c : Ctx) (J1 : AV → List AObj → Prop) (K : AOut → List AObj → Prop) (lv : List AV) (h0 : List AObj) (n0 : Nat) (c0 : AV) (c3 : AV) (c15 : AV) (c16 : AV) : Prop :=
  ∃ I : Nat → List AV → List AObj → Prop, (∃ n, I n lv h0) ∧ ∀ n h, ∀ t4, ∀ t17, I n [t4, t17] h →
    runD (binD T_int .lss t17 c16) h fun t18 h =>
    condW t18
    (joinW (fun (J2 : AV → AV → AV → AV → AV → AV → List AObj → Prop) =>
    runD (indexAddrD T_sl_int h c15 t17) h fun t20 h =>
    runD (fitD T_int (loadD h t20)) h fun t21 h =>
    callW false c (.fn (.func 53) [] []) [c0, t21] h (fun t24 h =>
    allocW T_api_Node h fun t7 h =>
    runH (storeH T_api_Node h t7 t24) h fun _ h =>
    runD (fitD T_api_Node (loadD h t7)) h fun t26 h =>
    callW false c (.fn (.func 57) [] []) [c0, t26] h (fun t27 h =>
    runD (binD T_int .eql t17 (.int .i64 0)) h fun t29 h =>
    joinW (fun (J3 : AV → AV → List AObj → Prop) =>
    guardW t29 true
    (runD (fieldAddrD T_api_Node t7 3) h fun t31 h =>
      runD (fitD T_int (loadD h t31)) h fun t32 h =>
      runD (binD T_int .eql t32 (.int .i64 0)) h fun t33 h =>
      J3 (.bool true) t33 h)
    (J3 (.bool false) .und h))
    (fun t30 t33 h => runD (pickD t30 t33 (.bool false)) h fun t34 h =>
    joinW (fun (J4 : AV → AV → List AObj → Prop) =>
    guardW t34 false
    (runD (binD T_int .gtr t17 (.int .i64 0)) h fun t37 h =>
      joinW (fun (J5 : AV → AV → List AObj → Prop) =>
      guardW t37 true
      (runD (binD T_string .gtr t27 t4) h fun t41 h =>
        J5 (.bool true) t41 h)
      (J5 (.bool false) .und h))
      (fun t38 t41 h => runD (pickD t38 t41 (.bool false)) h fun t42 h =>
      J4 (.bool false) t42 h))
    (J4 (.bool true) .und h))
    (fun t35 t42 h => runD (pickD t35 (.bool true) t42) h fun t43 h =>
    callW false c (.fn (.func 82) [] []) [t43] h (fun t44 h =>
    runD (fieldAddrD T_api_Node t7 4) h fun t46 h =>
    runD (fitD T_sl_int (loadD h t46)) h fun t47 h =>
    callW false c (.fn (.func 84) [] []) [t47] h (fun t48 h =>
    runD (lenD T_sl_int h t48) h fun t49 h =>
    joinW (fun (J6 : AV → AV → AV → AV → AV → AV → List AObj → Prop) =>
    promV [false, false] [t27, (.int .i64 0)] h fun lv h => arena_look.L2 c J6 K (AV.norms h.length h lv) (normH h.length h) h.length (AV.norm h.length h c0) (AV.norm h.length h c3) (AV.norm h.length h t27) (AV.norm h.length h c15) (AV.norm h.length h c16) (AV.norm h.length h t17) (AV.norm h.length h t48) (AV.norm h.length h t49))
    (fun t0 t3 t8 t15 t16 t17 h => J2 t0 t3 t8 t15 t16 t17 h))
    (fun v h => K (.pan v) h))
    (fun v h => K (.pan v) h))))
    (fun v h => K (.pan v) h))
    (fun v h => K (.pan v) h))
    (fun t0 t3 t4 t15 t16 t17 h => runD (binD T_int .add t17 (.int .i64 1)) h fun t91 h =>
    (∃ m, m < n ∧ I m (AV.norms n0 h [t4, t91]) (normH n0 h)) ∧ AV.norms n0 h [t0, t3, t15, t16] = [c0, c3, c15, c16]))
    (J1 c3 h)
def arena_look.H (c : Ctx) (t0 : AV) (h : List AObj) (K : AOut → List AObj → Prop) : Prop :=
  callW false c (.fn (.func 50) [] []) [t0] h (fun t14 h =>
  runD (lenD T_sl_int h t14) h fun t16 h =>
  joinW (fun (J1 : AV → List AObj → Prop) =>
  promV [false, false] [(.str []), (.int .i64 0)] h fun lv h => arena_look.L1 c J1 K (AV.norms h.length h lv) (normH h.length h) h.length (AV.norm h.length h t0) (AV.norm h.length h t14) (AV.norm h.length h t14) (AV.norm h.length h t16))
  (fun t3 h => K (.ret t3) h))
  (fun v h => K (.pan v) h)
def arena_reach_node.loops : Nat → LInfo
  | 5 => ⟨[25], [false], [0, 23, 24], [], [], []⟩
  | _ => ⟨[], [], [], [], [], []⟩
def arena_reach_node.L1 (c : Ctx) (J2 : List AObj → Prop) (K : AOut → List AObj → Prop) (lv : List AV) (h0 : List AObj) (n0 : Nat) (c0 : AV) (c23 : AV) (c24 : AV) : Prop :=
  ∃ I : Nat → List AV → List AObj → Prop, (∃ n, I n lv h0) ∧ ∀ n h, ∀ t25, I n [t25] h →
    runD (binD T_int .lss t25 c24) h fun t26 h =>
    condW t26
    (runD (indexAddrD T_sl_int h c23 t25) h fun t27 h =>
    runD (fitD T_int (loadD h t27)) h fun t28 h =>
    runD (nilCheckD c0) h fun t30 h =>
    runD (fieldAddrD T_arena_reach t30 1) h fun t31 h =>
    runD (fitD T_map_int_bool (loadD h t31)) h fun t32 h =>
    runH (mapSetH T_map_int_bool h t32 t28 (.bool true)) h fun _ h =>
    runD (binD T_int .add t25 (.int .i64 1)) h fun t34 h =>
    (∃ m, m < n ∧ I m (AV.norms n0 h [t34]) (normH n0 h)) ∧ AV.norms n0 h [c0, c23, c24] = [c0, c23, c24])
    (J2 h)
def arena_reach_node.H (c : Ctx) (t0 : AV) (t1 : AV) (t2 : AV) (h : List AObj) (K : AOut → List AObj → Prop) : Prop :=
  boxW T_api_Node t1 h fun t4 h =>
  runD (nilCheckD t0) h fun t9 h =>
  runD (fieldAddrD T_arena_reach t9 1) h fun t10 h =>
  runD (fitD T_map_int_bool (loadD h t10)) h fun t11 h =>
  runH (mapSetH T_map_int_bool h t11 t2 (.bool true)) h fun _ h =>
  runD (fieldAddrD T_api_Node t4 3) h fun t13 h =>
  runD (fitD T_int (loadD h t13)) h fun t14 h =>
  runD (binD T_int .neq t14 (.int .i64 0)) h fun t15 h =>
  joinW (fun (J1 : List AObj → Prop) =>
  condW t15
  (runD (nilCheckD t0) h fun t17 h =>
    runD (fieldAddrD T_arena_reach t17 1) h fun t18 h =>
    runD (fitD T_map_int_bool (loadD h t18)) h fun t19 h =>
    runD (fieldAddrD T_api_Node t4 3) h fun t20 h =>
    runD (fitD T_int (loadD h t20)) h fun t21 h =>
    runH (mapSetH T_map_int_bool h t19 t21 (.bool true)) h fun _ h =>
    J1 h)
  (J1 h))
  (fun h => runD (fieldAddrD T_api_Node t4 4) h fun t22 h =>
  runD (fitD T_sl_int (loadD h t22)) h fun t23 h =>
  runD (lenD T_sl_int h t23) h fun t24 h =>
  joinW (fun (J2 : List AObj → Prop) =>
  promV [false] [(.int .i64 0)] h fun lv h => arena_reach_node.L1 c J2 K (AV.norms h.length h lv) (normH h.length h) h.length (AV.norm h.length h t0) (AV.norm h.length h t23) (AV.norm h.length h t24))
  (fun h => K (.ret (.tup [])) h))
def arena_nodeOf.loops : Nat → LInfo
  | _ => ⟨[], [], [], [], [], []⟩
def arena_nodeOf.H (c : Ctx) (t0 : AV) (t1 : AV) (h : List AObj) (K : AOut → List AObj → Prop) : Prop :=
  allocW T_api_Node h fun t4 h =>
  callW false c (.fn (.func 23) [] []) [t0, t1] h (fun t10 h =>
  runD (extractD t10 0) h fun t11 h =>
  runD (extractD t10 1) h fun t12 h =>
  allocW T_api_Node h fun t5 h =>
  runH (storeH T_api_Node h t5 t11) h fun _ h =>
  runD (binD T_api_Errno .eql t12 (.int .i64 0)) h fun t14 h =>
  callW false c (.fn (.func 82) [] []) [t14] h (fun t15 h =>
  runD (fitD T_api_Node (loadD h t5)) h fun t16 h =>
  runH (storeH T_api_Node h t4 t16) h fun _ h =>
  loadRes (fitD T_api_Node (loadD h t4)) fun r0 => K (.ret r0) h)
  (fun v h => K (.pan v) h))
  (fun v h => K (.pan v) h)
def arena_reach_higher.loops : Nat → LInfo
  | 1 => ⟨[], [], [], [(3, none), (3, some [23, 26]), (2, none), (5, some [28, 33]), (2, none), (6, some [35, 41])], [], []⟩
  | 5 => ⟨[55], [false], [0, 6, 53, 54], [], [], []⟩
  | 8 => ⟨[], [], [], [(3, none), (3, some [70, 73])], [], []⟩
  | _ => ⟨[], [], [], [], [], []⟩
def arena_reach_higher.L1 (c : Ctx) (J4 : AV → AV → List AObj → Prop) (K : AOut → List AObj → Prop) (lv : List AV) (h0 : List AObj) (n0 : Nat) (c0 : AV) (c6 : AV) (c53 : AV) (c54 : AV) : Prop :=
  ∃ I : Nat → List AV → List AObj → Prop, (∃ n, I n lv h0) ∧ ∀ n h, ∀ t55, I n [t55] h →
    runD (binD T_int .lss t55 c54) h fun t56 h =>
    condW t56
    (runD (indexAddrD T_sl_int h c53 t55) h fun t57 h =>
    runD (fitD T_int (loadD h t57)) h fun t58 h =>
    runD (nilCheckD c0) h fun t61 h =>
    runD (fieldAddrD T_arena_reach t61 0) h fun t62 h =>
    runD (fitD T_sl_int (loadD h t62)) h fun t63 h =>
    callW false c (.fn (.func 37) [] []) [t63, t58] h (fun t65 h =>
    runD (extractD t65 0) h fun t66 h =>
    runD (extractD t65 1) h fun t67 h =>
    allocW T_api_Rec h fun t10 h =>
    runH (storeH T_api_Rec h t10 t66) h fun _ h =>
    runD (binD T_api_Errno .eql t67 (.int .i64 0)) h fun t69 h =>
    joinW (fun (J5 : AV → AV → List AObj → Prop) =>
    guardW t69 true
    (runD (fieldAddrD T_api_Rec t10 0) h fun t71 h =>
      runD (fitD T_int (loadD h t71)) h fun t72 h =>
      runD (binD T_int .eql t72 (.int .i64 2)) h fun t73 h =>
      J5 (.bool true) t73 h)
    (J5 (.bool false) .und h))
    (fun t70 t73 h => runD (pickD t70 t73 (.bool false)) h fun t74 h =>
    joinW (fun (J6 : List AObj → Prop) =>
    condW t74
    (runD (fieldAddrD T_api_Rec t10 3) h fun t76 h =>
      runD (fitD T_int (loadD h t76)) h fun t77 h =>
      callW false c (.fn (.func 55) [] []) [c0, t77, (.fn (.func 85) [] [c6])] h (fun t79 h =>
      J6 h)
      (fun v h => K (.pan v) h))
    (J6 h))
    (fun h => runD (binD T_int .add t55 (.int .i64 1)) h fun t80 h =>
    (∃ m, m < n ∧ I m (AV.norms n0 h [t80]) (normH n0 h)) ∧ AV.norms n0 h [c0, c6, c53, c54] = [c0, c6, c53, c54])))
    (fun v h => K (.pan v) h))
    (J4 c0 c6 h)
def arena_reach_higher.H (c : Ctx) (t0 : AV) (t1 : AV) (t2 : AV) (h : List AObj) (K : AOut → List AObj → Prop) : Prop :=
  runD (nilCheckD t0) h fun t14 h =>
  runD (fieldAddrD T_arena_reach t14 0) h fun t15 h =>
  runD (fitD T_sl_int (loadD h t15)) h fun t16 h =>
  callW false c (.fn (.func 23) [] []) [t16, t1] h (fun t18 h =>
  runD (extractD t18 0) h fun t19 h =>
  runD (extractD t18 1) h fun t20 h =>
  allocW T_api_Node h fun t6 h =>
  runH (storeH T_api_Node h t6 t19) h fun _ h =>
  runD (binD T_api_Errno .neq t20 (.int .i64 0)) h fun t22 h =>
  joinW (fun (J1 : AV → AV → List AObj → Prop) =>
  guardW t22 false
  (runD (fieldAddrD T_api_Node t6 0) h fun t24 h =>
    runD (fitD T_int (loadD h t24)) h fun t25 h =>
    runD (binD T_int .eql t25 (.int .i64 0)) h fun t26 h =>
    J1 (.bool false) t26 h)
  (J1 (.bool true) .und h))
  (fun t23 t26 h => runD (pickD t23 (.bool true) t26) h fun t27 h =>
  joinW (fun (J2 : AV → AV → List AObj → Prop) =>
  guardW t27 false
  (runD (fieldAddrD T_api_Node t6 0) h fun t30 h =>
    runD (fitD T_int (loadD h t30)) h fun t31 h =>
    callW false c t2 [t31] h (fun t32 h =>
    runD (unD .not t32) h fun t33 h =>
    J2 (.bool false) t33 h)
    (fun v h => K (.pan v) h))
  (J2 (.bool true) .und h))
  (fun t28 t33 h => runD (pickD t28 (.bool true) t33) h fun t34 h =>
  joinW (fun (J3 : AV → AV → List AObj → Prop) =>
  guardW t34 false
  (runD (nilCheckD t0) h fun t37 h =>
    runD (fieldAddrD T_arena_reach t37 2) h fun t38 h =>
    runD (fitD T_map_int_bool (loadD h t38)) h fun t39 h =>
    runD (lookupD T_map_int_bool h t39 t1) h fun t41 h =>
    J3 (.bool false) t41 h)
  (J3 (.bool true) .und h))
  (fun t35 t41 h => runD (pickD t35 (.bool true) t41) h fun t42 h =>
  condW t42
  (K (.ret (.tup [])) h)
  (runD (nilCheckD t0) h fun t44 h =>
  runD (fieldAddrD T_arena_reach t44 2) h fun t45 h =>
  runD (fitD T_map_int_bool (loadD h t45)) h fun t46 h =>
  runH (mapSetH T_map_int_bool h t46 t1 (.bool true)) h fun _ h =>
  runD (fitD T_api_Node (loadD h t6)) h fun t49 h =>
  callW false c (.fn (.func 52) [] []) [t0, t49, t1] h (fun t51 h =>
  runD (fieldAddrD T_api_Node t6 4) h fun t52 h =>
  runD (fitD T_sl_int (loadD h t52)) h fun t53 h =>
  runD (lenD T_sl_int h t53) h fun t54 h =>
  joinW (fun (J4 : AV → AV → List AObj → Prop) =>
  promV [false] [(.int .i64 0)] h fun lv h => arena_reach_higher.L1 c J4 K (AV.norms h.length h lv) (normH h.length h) h.length (AV.norm h.length h t0) (AV.norm h.length h t6) (AV.norm h.length h t53) (AV.norm h.length h t54))
  (fun t0 t6 h => runD (fieldAddrD T_api_Node t6 2) h fun t81 h =>
  runD (fitD T_int (loadD h t81)) h fun t82 h =>
  runD (binD T_int .neq t82 (.int .i64 0)) h fun t83 h =>
  joinW (fun (J7 : List AObj → Prop) =>
  condW t83
  (runD (fieldAddrD T_api_Node t6 2) h fun t85 h =>
    runD (fitD T_int (loadD h t85)) h fun t86 h =>
    callW false c (.fn (.func 55) [] []) [t0, t86, (.fn (.func 86) [] [t6])] h (fun t88 h =>
    J7 h)
    (fun v h => K (.pan v) h))
  (J7 h))
  (fun h => K (.ret (.tup [])) h)))
  (fun v h => K (.pan v) h))))))
  (fun v h => K (.pan v) h)
def arena_Reach_1.loops : Nat → LInfo
  | _ => ⟨[], [], [], [], [], []⟩
def arena_Reach_1.H (c : Ctx) (t0 : AV) (h : List AObj) (K : AOut → List AObj → Prop) : Prop :=
  K (.ret (.bool true)) h
def arena_lowOf.loops : Nat → LInfo
  | _ => ⟨[], [], [], [], [], []⟩
def arena_lowOf.H (c : Ctx) (t0 : AV) (t1 : AV) (h : List AObj) (K : AOut → List AObj → Prop) : Prop :=
  boxW T_api_Node t1 h fun t3 h =>
  runD (fieldAddrD T_api_Node t3 3) h fun t5 h =>
  runD (fitD T_int (loadD h t5)) h fun t6 h =>
  runD (binD T_int .eql t6 (.int .i64 0)) h fun t7 h =>
  condW t7
  (K (.ret (.str [])) h)
  (runD (fieldAddrD T_api_Node t3 3) h fun t9 h =>
  runD (fitD T_int (loadD h t9)) h fun t10 h =>
  callW false c (.fn (.func 87) [] []) [t0, t10] h (fun t11 h =>
  K (.ret t11) h)
  (fun v h => K (.pan v) h))
def arena_sound.loops : Nat → LInfo
  | _ => ⟨[], [], [], [], [], []⟩
def arena_sound.H (c : Ctx) (t0 : AV) (h : List AObj) (K : AOut → List AObj → Prop) : Prop :=
  runD (unD .not t0) h fun t3 h =>
  joinW (fun (J1 : List AObj → Prop) =>
  condW t3
  (runD (buildD T_arena_corrupt []) h fun t4 h =>
    K (.pan (.iface 120 t4)) h)
  (J1 h))
  (fun h => K (.ret (.tup [])) h)
def arena_reach_higher_1.loops : Nat → LInfo
  | _ => ⟨[], [], [], [], [], []⟩
def arena_reach_higher_1.H (c : Ctx) (t0 : AV) (t1 : AV) (h : List AObj) (K : AOut → List AObj → Prop) : Prop :=
  runD (fieldAddrD T_api_Node t1 0) h fun t5 h =>
  runD (fitD T_int (loadD h t5)) h fun t6 h =>
  runD (binD T_int .sub t6 (.int .i64 1)) h fun t7 h =>
  runD (binD T_int .eql t0 t7) h fun t8 h =>
  K (.ret t8) h
def arena_reach_higher_2.loops : Nat → LInfo
  | _ => ⟨[], [], [], [], [], []⟩
def arena_reach_higher_2.H (c : Ctx) (t0 : AV) (t1 : AV) (h : List AObj) (K : AOut → List AObj → Prop) : Prop :=
  runD (fieldAddrD T_api_Node t1 0) h fun t5 h =>
  runD (fitD T_int (loadD h t5)) h fun t6 h =>
  runD (binD T_int .eql t0 t6) h fun t7 h =>
  K (.ret t7) h
def arena_keyOf.loops : Nat → LInfo
  | _ => ⟨[], [], [], [], [], []⟩
def arena_keyOf.H (c : Ctx) (t0 : AV) (t1 : AV) (h : List AObj) (K : AOut → List AObj → Prop) : Prop :=
  callW false c (.fn (.func 37) [] []) [t0, t1] h (fun t10 h =>
  runD (extractD t10 0) h fun t11 h =>
  runD (extractD t10 1) h fun t12 h =>
  allocW T_api_Rec h fun t5 h =>
  runH (storeH T_api_Rec h t5 t11) h fun _ h =>
  runD (binD T_api_Errno .eql t12 (.int .i64 0)) h fun t14 h =>
  callW false c (.fn (.func 82) [] []) [t14] h (fun t15 h =>
  runD (fieldAddrD T_api_Rec t5 1) h fun t16 h =>
  runD (fitD T_string (loadD h t16)) h fun t17 h =>
  K (.ret t17) h)
  (fun v h => K (.pan v) h))
  (fun v h => K (.pan v) h)
theorem arena_New.eq (F : List (FuncId × Contract)) (S : List (FuncId × Con)) (t0 : AV) (h : List AObj) (K : AOut → List AObj → Prop) : funW (ctx F S arena_New.loops) Try.f16 [t0] h K = arena_New.H (ctx F S arena_New.loops) t0 h K := by kernel_rfl
theorem arena_Leaves.eq (F : List (FuncId × Contract)) (S : List (FuncId × Con)) (t0 : AV) (h : List AObj) (K : AOut → List AObj → Prop) : funDW (ctx F S arena_Leaves.loops) Try.f17 49 120 110 [t0] h K = arena_Leaves.H (ctx F S arena_Leaves.loops) t0 h K := by kernel_rfl
theorem arena_Reach.eq (F : List (FuncId × Contract)) (S : List (FuncId × Con)) (t0 : AV) (h : List AObj) (K : AOut → List AObj → Prop) : funDW (ctx F S arena_Reach.loops) Try.f18 49 120 110 [t0] h K = arena_Reach.H (ctx F S arena_Reach.loops) t0 h K := by kernel_rfl
theorem arena_Check.eq (F : List (FuncId × Contract)) (S : List (FuncId × Con)) (t0 : AV) (h : List AObj) (K : AOut → List AObj → Prop) : funDW (ctx F S arena_Check.loops) Try.f19 49 120 110 [t0] h K = arena_Check.H (ctx F S arena_Check.loops) t0 h K := by kernel_rfl
theorem arena_Low.eq (F : List (FuncId × Contract)) (S : List (FuncId × Con)) (t0 t1 : AV) (h : List AObj) (K : AOut → List AObj → Prop) : funDW (ctx F S arena_Low.loops) Try.f22 49 120 110 [t0, t1] h K = arena_Low.H (ctx F S arena_Low.loops) t0 t1 h K := by kernel_rfl
theorem arena_chain.eq (F : List (FuncId × Contract)) (S : List (FuncId × Con)) (t0 : AV) (h : List AObj) (K : AOut → List AObj → Prop) : funW (ctx F S arena_chain.loops) Try.f50 [t0] h K = arena_chain.H (ctx F S arena_chain.loops) t0 h K := by kernel_rfl
theorem arena_look.eq (F : List (FuncId × Contract)) (S : List (FuncId × Con)) (t0 : AV) (h : List AObj) (K : AOut → List AObj → Prop) : funW (ctx F S arena_look.loops) Try.f51 [t0] h K = arena_look.H (ctx F S arena_look.loops) t0 h K := by kernel_rfl
theorem arena_reach_node.eq (F : List (FuncId × Contract)) (S : List (FuncId × Con)) (t0 t1 t2 : AV) (h : List AObj) (K : AOut → List AObj → Prop) : funW (ctx F S arena_reach_node.loops) Try.f52 [t0, t1, t2] h K = arena_reach_node.H (ctx F S arena_reach_node.loops) t0 t1 t2 h K := by kernel_rfl
theorem arena_nodeOf.eq (F : List (FuncId × Contract)) (S : List (FuncId × Con)) (t0 t1 : AV) (h : List AObj) (K : AOut → List AObj → Prop) : funW (ctx F S arena_nodeOf.loops) Try.f53 [t0, t1] h K = arena_nodeOf.H (ctx F S arena_nodeOf.loops) t0 t1 h K := by kernel_rfl
theorem arena_reach_higher.eq (F : List (FuncId × Contract)) (S : List (FuncId × Con)) (t0 t1 t2 : AV) (h : List AObj) (K : AOut → List AObj → Prop) : funW (ctx F S arena_reach_higher.loops) Try.f55 [t0, t1, t2] h K = arena_reach_higher.H (ctx F S arena_reach_higher.loops) t0 t1 t2 h K := by kernel_rfl
theorem arena_Reach_1.eq (F : List (FuncId × Contract)) (S : List (FuncId × Con)) (t0 : AV) (h : List AObj) (K : AOut → List AObj → Prop) : funW (ctx F S arena_Reach_1.loops) Try.f56 [t0] h K = arena_Reach_1.H (ctx F S arena_Reach_1.loops) t0 h K := by kernel_rfl
theorem arena_lowOf.eq (F : List (FuncId × Contract)) (S : List (FuncId × Con)) (t0 t1 : AV) (h : List AObj) (K : AOut → List AObj → Prop) : funW (ctx F S arena_lowOf.loops) Try.f57 [t0, t1] h K = arena_lowOf.H (ctx F S arena_lowOf.loops) t0 t1 h K := by kernel_rfl
theorem arena_sound.eq (F : List (FuncId × Contract)) (S : List (FuncId × Con)) (t0 : AV) (h : List AObj) (K : AOut → List AObj → Prop) : funW (ctx F S arena_sound.loops) Try.f82 [t0] h K = arena_sound.H (ctx F S arena_sound.loops) t0 h K := by kernel_rfl
theorem arena_reach_higher_1.eq (F : List (FuncId × Contract)) (S : List (FuncId × Con)) (t0 t1 : AV) (h : List AObj) (K : AOut → List AObj → Prop) : funW (ctx F S arena_reach_higher_1.loops) Try.f85 [t0, t1] h K = arena_reach_higher_1.H (ctx F S arena_reach_higher_1.loops) t0 t1 h K := by kernel_rfl
theorem arena_reach_higher_2.eq (F : List (FuncId × Contract)) (S : List (FuncId × Con)) (t0 t1 : AV) (h : List AObj) (K : AOut → List AObj → Prop) : funW (ctx F S arena_reach_higher_2.loops) Try.f86 [t0, t1] h K = arena_reach_higher_2.H (ctx F S arena_reach_higher_2.loops) t0 t1 h K := by kernel_rfl
theorem arena_keyOf.eq (F : List (FuncId × Contract)) (S : List (FuncId × Con)) (t0 t1 : AV) (h : List AObj) (K : AOut → List AObj → Prop) : funW (ctx F S arena_keyOf.loops) Try.f87 [t0, t1] h K = arena_keyOf.H (ctx F S arena_keyOf.loops) t0 t1 h K := by kernel_rfl
theorem arena_New.at : Try.prog.funcs[16]? = some Try.f16 := by kernel_rfl
theorem arena_New.nm : (Try.f16.name == "runtime.NumGoroutine") = false := by kernel_rfl
theorem arena_New.bd : Try.f16.body.isNone = false := by kernel_rfl
theorem arena_Leaves.at : Try.prog.funcs[17]? = some Try.f17 := by kernel_rfl
theorem arena_Leaves.nm : (Try.f17.name == "runtime.NumGoroutine") = false := by kernel_rfl
theorem arena_Leaves.bd : Try.f17.body.isNone = false := by kernel_rfl
theorem arena_Reach.at : Try.prog.funcs[18]? = some Try.f18 := by kernel_rfl
theorem arena_Reach.nm : (Try.f18.name == "runtime.NumGoroutine") = false := by kernel_rfl
theorem arena_Reach.bd : Try.f18.body.isNone = false := by kernel_rfl
theorem arena_Check.at : Try.prog.funcs[19]? = some Try.f19 := by kernel_rfl
theorem arena_Check.nm : (Try.f19.name == "runtime.NumGoroutine") = false := by kernel_rfl
theorem arena_Check.bd : Try.f19.body.isNone = false := by kernel_rfl
theorem arena_Low.at : Try.prog.funcs[22]? = some Try.f22 := by kernel_rfl
theorem arena_Low.nm : (Try.f22.name == "runtime.NumGoroutine") = false := by kernel_rfl
theorem arena_Low.bd : Try.f22.body.isNone = false := by kernel_rfl
theorem arena_chain.at : Try.prog.funcs[50]? = some Try.f50 := by kernel_rfl
theorem arena_chain.nm : (Try.f50.name == "runtime.NumGoroutine") = false := by kernel_rfl
theorem arena_chain.bd : Try.f50.body.isNone = false := by kernel_rfl
theorem arena_look.at : Try.prog.funcs[51]? = some Try.f51 := by kernel_rfl
theorem arena_look.nm : (Try.f51.name == "runtime.NumGoroutine") = false := by kernel_rfl
theorem arena_look.bd : Try.f51.body.isNone = false := by kernel_rfl
theorem arena_reach_node.at : Try.prog.funcs[52]? = some Try.f52 := by kernel_rfl
theorem arena_reach_node.nm : (Try.f52.name == "runtime.NumGoroutine") = false := by kernel_rfl
theorem arena_reach_node.bd : Try.f52.body.isNone = false := by kernel_rfl
theorem arena_nodeOf.at : Try.prog.funcs[53]? = some Try.f53 := by kernel_rfl
theorem arena_nodeOf.nm : (Try.f53.name == "runtime.NumGoroutine") = false := by kernel_rfl
theorem arena_nodeOf.bd : Try.f53.body.isNone = false := by kernel_rfl
theorem arena_reach_higher.at : Try.prog.funcs[55]? = some Try.f55 := by kernel_rfl
theorem arena_reach_higher.nm : (Try.f55.name == "runtime.NumGoroutine") = false := by kernel_rfl
theorem arena_reach_higher.bd : Try.f55.body.isNone = false := by kernel_rfl
theorem arena_Reach_1.at : Try.prog.funcs[56]? = some Try.f56 := by kernel_rfl
theorem arena_Reach_1.nm : (Try.f56.name == "runtime.NumGoroutine") = false := by kernel_rfl
theorem arena_Reach_1.bd : Try.f56.body.isNone = false := by kernel_rfl
theorem arena_lowOf.at : Try.prog.funcs[57]? = some Try.f57 := by kernel_rfl
theorem arena_lowOf.nm : (Try.f57.name == "runtime.NumGoroutine") = false := by kernel_rfl
theorem arena_lowOf.bd : Try.f57.body.isNone = false := by kernel_rfl
theorem arena_sound.at : Try.prog.funcs[82]? = some Try.f82 := by kernel_rfl
theorem arena_sound.nm : (Try.f82.name == "runtime.NumGoroutine") = false := by kernel_rfl
theorem arena_sound.bd : Try.f82.body.isNone = false := by kernel_rfl
theorem arena_reach_higher_1.at : Try.prog.funcs[85]? = some Try.f85 := by kernel_rfl
theorem arena_reach_higher_1.nm : (Try.f85.name == "runtime.NumGoroutine") = false := by kernel_rfl
theorem arena_reach_higher_1.bd : Try.f85.body.isNone = false := by kernel_rfl
theorem arena_reach_higher_2.at : Try.prog.funcs[86]? = some Try.f86 := by kernel_rfl
theorem arena_reach_higher_2.nm : (Try.f86.name == "runtime.NumGoroutine") = false := by kernel_rfl
theorem arena_reach_higher_2.bd : Try.f86.body.isNone = false := by kernel_rfl
theorem arena_keyOf.at : Try.prog.funcs[87]? = some Try.f87 := by kernel_rfl
theorem arena_keyOf.nm : (Try.f87.name == "runtime.NumGoroutine") = false := by kernel_rfl
theorem arena_keyOf.bd : Try.f87.body.isNone = false := by kernel_rfl
end Lam
namespace Lam
open Go Go.Proofs
set_option linter.unusedVariables false
set_option linter.unnecessarySimpa false
set_option linter.unusedSimpArgs false
theorem arena_told.at : Try.prog.funcs[49]? = some Try.f49 := by kernel_rfl
theorem arena_told.nm : (Try.f49.name == "runtime.NumGoroutine") = false := by kernel_rfl
theorem arena_told.bd : Try.f49.body.isNone = false := by kernel_rfl
theorem told_if : Try.prog.underlying 20 = some (.interface (Try.prog.methodsAt 20)) := by kernel_rfl
theorem told_ret (q : Value) (w : World) : ∃ c, Try.f49.body = some c ∧ ∀ (Q : Exit → Act → List Frame → World → Prop) (c₀ : Frame) (cs : List Frame), c₀.mode = .returning → (∀ a', a'.defers = [] → Q .normal a' (c₀ :: cs) w) →
      c.wpS Try.prog Q { tmps := #[q] ++ Array.replicate 12 undef, defers := [] } (c₀ :: cs) w := by
  delta Try.f49
  refine ⟨_, rfl, fun Q c₀ cs hu hQ => wpS_seq (wpS_region ?_)⟩
  simp [wpOpsS, Region.wanted, execOp, resolve, invoke, builtin, recoverD, hu, Exit.thenS, Act.put]
  refine wpS_of_wp (wp_block (wp_seq (wp_region ?_)))
  simp [wpOps, Region.wanted, Oper.wp, Oper.upon, execOp, Act.eval, Act.put, eqGuard, binOp, run_equal_nil_nil w 20 told_if]
  refine .inl (wp_cond_true (by simp [Act.eval]) (wp_region ?_))
  simp [wpOps, Region.wanted, Oper.wp, Oper.upon, execOp, Act.eval, Act.put, Exit.inBlock]
  exact .inl (hQ _ rfl)
def toldP : Code → Nat × Array Oper × Nat × Array Oper
  | .seq _ (.block _ (.seq _ (.cond _ _ (.seq _ (.cond _ (.seq (.region i a _) (.region j b _)) _))))) => (i, a, j, b)
  | _ => (0, #[], 0, #[])
def toldA (c : Code) : List Oper := (toldP c).2.1.toList
def toldB (c : Code) : List Oper := (toldP c).2.2.2.toList
abbrev told_ctx : Ctx := ctx [] [] arena_sound.loops
theorem told_ok : Ok Try.prog told_ctx := ctx_ok (by simp) (by simp) _
set_option maxRecDepth 20000 in
theorem told_pan (q : Value) : ∃ c, Try.f49.body = some c ∧ (toldA c).all (fun o => match o.dst with | none => true | some d => Nat.blt d 13) = true ∧ (toldB c).all (fun o => match o.dst with | none => true | some d => Nat.blt d 13) = true ∧
      (∀ (h : List AObj) (id : Nat) (n : Int) (KP : List (Nat × AV) → AV → List AObj → Prop), h[id]? = some (.box (.int .i64 n)) → opsW told_ctx [] (toldA c) KP (fun t h' => opsW told_ctx [] (toldB c) KP (fun _ h' => h' = (h ++ [AObj.box (.agg [])]).set id (AObj.box (.int .i64 110))) (toldB c) [] t h') (toldA c) [] [(0, .ptr id []), (10, .agg [])] h) ∧
      ∀ (u : Value) (w : World) (Q : Exit → Act → List Frame → World → Prop) (c₀ : Frame) (cs : List Frame), c₀.mode = .panicking [{ v := .iface 120 u, recovered := false }] →
      (∀ a : Act, a.defers = [] → a.tmps.size = 13 → a.tmps.getD 0 undef = q → a.tmps.getD 10 undef = u →
        (Code.seq (.region (toldP c).1 (toldP c).2.1 false) (.region (toldP c).2.2.1 (toldP c).2.2.2 false)).wpIn (FW none) 0 Try.prog (Exit.inBlock 0 fun e a' w' => Q e a' ({ c₀ with mode := .panicking [{ v := .iface 120 u, recovered := true }] } :: cs) w') a w) →
      c.wpS Try.prog Q { tmps := #[q] ++ Array.replicate 12 undef, defers := [] } (c₀ :: cs) w := by
  delta Try.f49
  refine ⟨_, rfl, by decide, by decide, ?_, fun u w Q c₀ cs hu hQ => wpS_seq (wpS_region ?_)⟩
  · intro h id n KP hid
    have hlt := (List.getElem?_eq_some_iff.1 hid).1
    have e1 : (h ++ [AObj.box (.agg [])])[h.length]? = some (.box (.agg [])) := by simp
    have e2 : ∀ o, ((h ++ [AObj.box (.agg [])]).set h.length o)[id]? = some (.box (.int .i64 n)) := fun o => by
      rw [List.getElem?_set, if_neg (by omega), List.getElem?_append_left hlt]; exact hid
    show allocW (.strct []) h fun t3 h1 => runH (storeH (.strct []) h1 t3 (.agg [])) h1 fun _ h => runD (nilCheckD (.ptr id [])) h fun t12 h => runH (storeH (.int .i64) h t12 (.int .i64 110)) h fun _ h' => h' = _
    simp only [e1, e2, go_sem, Nat.reduceEqDiff, Nat.reduceLT, Nat.reduceAdd, Nat.reduceSub, Nat.reduceLeDiff, List.reduceReplicate, Int.reduceToNat]
    have e3 : (h ++ [AObj.box (.agg [])]).set h.length (AObj.box (.agg [])) = h ++ [AObj.box (.agg [])] := by simp
    rw [e3]
  · simp [wpOpsS, Region.wanted, execOp, resolve, invoke, builtin, recoverD, hu, Exit.thenS, Act.put]
    refine wpS_of_wp (wp_block (wp_seq (wp_region ?_)))
    simp [wpOps, Region.wanted, Oper.wp, Oper.upon, execOp, Act.eval, Act.put, eqGuard, binOp, run_equal_held_nil w 20 120 u told_if]
    refine .inl (wp_cond_false (by simp [Act.eval]) (wp_seq (wp_region ?_)))
    have hta : (Instr.typeAssert (.iface 120 u) 20 120 true).run Try.prog w = .ok (.tuple #[u, .bool true]) w := by
      have h0 : Try.prog.underlying 120 = some (.struct #[]) := by kernel_rfl
      simp [Instr.typeAssert, underlying, h0]
    have hr3 : List.range 3 = [0, 1, 2] := rfl
    simp [hr3, wpOps, Region.wanted, Oper.wp, Oper.upon, execOp, Act.eval, Act.put, hta, Instr.extract]
    refine .inl (.inl (.inl (wp_cond_true (by simp [Act.eval]) (wpIn_wide.1 (hQ { tmps := _, defers := [] } rfl ?_ ?_ ?_))))) <;> simp
theorem arena_told.tspec : TSpec Try.prog 49 120 110 := by
  refine ⟨enter_of arena_told.at arena_told.nm arena_told.bd, fun q w => ?_, fun X id q z n H hq hz hbox => ?_⟩
  · obtain ⟨c, hb, h⟩ := told_ret q w
    refine callsDIn_of_wpS arena_told.at hb fun c₀ cs hu => h _ c₀ cs hu fun a' hd => ?_
    refine ⟨hd, .returning, ?_, .tuple #[], ?_, ⟨_, rfl⟩, rfl, rfl⟩
    · rw [← hu]
    · have : Try.f49.results = #[] := by kernel_rfl
      rw [results_eq, this, Array.mapM_eq_mapM_toList]; rfl
  · simp only [VV] at hz
    obtain ⟨u, rfl, hu⟩ := hz
    obtain ⟨c, hb, hd1, hd2, hW, h⟩ := told_pan q
    refine callsDIn_of_wpS arena_told.at hb fun c₀ cs hc => h u X.w _ c₀ cs hc fun a had hs h0 h10 => wpIn_seq (wpIn_region_list ?_)
    have R : SR 13 ⟨X.w.heap.size, []⟩ X [(0, .ptr id []), (10, .agg [])] a := by
      refine ⟨fun i => ?_, Nat.le_of_eq hs.symm, [], had, trivial⟩
      simp only [get]
      split
      · rename_i e; obtain rfl := Nat.eq_of_beq_eq_true e; rw [h0]; exact hq
      · split
        · rename_i e; obtain rfl := Nat.eq_of_beq_eq_true e; rw [h10]; exact hu
        · trivial
    have dst : ∀ {l : List Oper}, (l.all fun o => match o.dst with | none => true | some d => Nat.blt d 13) = true → ∀ o ∈ l, ∀ i, o.dst = some i → i < 13 := by
      intro l hl o ho i hi
      rw [List.all_eq_true] at hl
      have := hl o ho
      rw [hi] at this
      simpa using this
    have hw := hW X.h id n (fun _ _ _ => False) hbox
    have := opsW_sound (ro := none) (n := 13) (ds := ⟨X.w.heap.size, []⟩) (rest := []) (c := told_ctx) told_ok.ok told_ok.s told_ok.plain (B := X) (fun l => yok_none (told_ok.y l)) 0 (toldP c).2.1 (toldA c) [] _ X a (dst hd1) (Kn.nil _) (Ext.refl X) H R hw
      (Q := Exit.then ((Code.region (toldP c).2.2.1 (toldP c).2.2.2 false).wpIn (FW none) 0 Try.prog (Exit.inBlock 0 fun e a' w' => bodyPostS Try.prog Try.f49 c₀ cs (fun e u' w' => (∃ v, e = .returned v) ∧ u' = .panicking [{ v := .iface 120 u, recovered := true }] ∧
      ∃ Y : Cx, Y.w = w' ∧ HR Y ∧ Ext X Y ∧ Y.h = (X.h ++ [AObj.box (.agg [])]).set id (AObj.box (.int .i64 110))) e a' ({ c₀ with mode := .panicking [{ v := .iface 120 u, recovered := true }] } :: cs) w')) (Exit.inBlock 0 fun e a' w' => bodyPostS Try.prog Try.f49 c₀ cs (fun e u' w' => (∃ v, e = .returned v) ∧ u' = .panicking [{ v := .iface 120 u, recovered := true }] ∧
      ∃ Y : Cx, Y.w = w' ∧ HR Y ∧ Ext X Y ∧ Y.h = (X.h ++ [AObj.box (.agg [])]).set id (AObj.box (.int .i64 110))) e a' ({ c₀ with mode := .panicking [{ v := .iface 120 u, recovered := true }] } :: cs) w')) ?_ (fun Y t' v q a' HY EY RY hf hv => hf.elim)
    · rw [List.append_nil] at this; exact this
    intro Y t' a' HY EY RY hs hk
    refine wpIn_region_list (F := FW none) (n := 0) (id := (toldP c).2.2.1) ?_
    have := opsW_sound (ro := none) (n := 13) (ds := ⟨X.w.heap.size, []⟩) (rest := []) (c := told_ctx) told_ok.ok told_ok.s told_ok.plain (B := Y) (fun l => yok_none (told_ok.y l)) 0 (toldP c).2.2.2 (toldB c) [] _ Y a' (dst hd2) (Kn.nil _) (Ext.refl Y) HY RY hk
      (Q := Exit.inBlock 0 fun e a' w' => bodyPostS Try.prog Try.f49 c₀ cs (fun e u' w' => (∃ v, e = .returned v) ∧ u' = .panicking [{ v := .iface 120 u, recovered := true }] ∧
      ∃ Y : Cx, Y.w = w' ∧ HR Y ∧ Ext X Y ∧ Y.h = (X.h ++ [AObj.box (.agg [])]).set id (AObj.box (.int .i64 110))) e a' ({ c₀ with mode := .panicking [{ v := .iface 120 u, recovered := true }] } :: cs) w') ?_ (fun Y t' v q a' HY EY RY hf hv => hf.elim)
    · rw [List.append_nil] at this; exact this
    intro Z t'' a'' HZ EZ RZ hs2 hk2
    refine ⟨by rw [hs2.2, hs.2, had], _, rfl, .tuple #[], ?_, ⟨_, rfl⟩, rfl, Z, rfl, HZ, EY.trans EZ, hk2⟩
    have : Try.f49.results = #[] := by kernel_rfl
    rw [results_eq, this, Array.mapM_eq_mapM_toList]; rfl
end Lam
namespace Lam
open Go Go.Proofs
set_option linter.unusedVariables false
def slices_Equal_sl_int_int.loops : Nat → LInfo
  | 4 => ⟨[13], [false], [0, 1, 12], [], [], []⟩
  | _ => ⟨[], [], [], [], [], []⟩
def slices_Equal_sl_int_int.L1 (c : Ctx) (J1 : List AObj → Prop) (K : AOut → List AObj → Prop) (lv : List AV) (h0 : List AObj) (n0 : Nat) (c0 : AV) (c1 : AV) (c12 : AV) : Prop :=
  ∃ I : Nat → List AV → List AObj → Prop, (∃ n, I n lv h0) ∧ ∀ n h, ∀ t13, I n [t13] h →
    runD (binD T_int .lss t13 c12) h fun t14 h =>
    condW t14
    (runD (indexAddrD T_sl_int h c0 t13) h fun t18 h =>
    runD (fitD T_int (loadD h t18)) h fun t19 h =>
    runD (indexAddrD T_sl_int h c1 t13) h fun t22 h =>
    runD (fitD T_int (loadD h t22)) h fun t23 h =>
    runD (binD T_int .neq t19 t23) h fun t24 h =>
    condW t24
    (K (.ret (.bool false)) h)
    (runD (binD T_int .add t13 (.int .i64 1)) h fun t25 h =>
    (∃ m, m < n ∧ I m (AV.norms n0 h [t25]) (normH n0 h)) ∧ AV.norms n0 h [c0, c1, c12] = [c0, c1, c12]))
    (J1 h)
def slices_Equal_sl_int_int.H (c : Ctx) (t0 : AV) (t1 : AV) (h : List AObj) (K : AOut → List AObj → Prop) : Prop :=
  runD (lenD T_sl_int h t0) h fun t7 h =>
  runD (lenD T_sl_int h t1) h fun t9 h =>
  runD (binD T_int .neq t7 t9) h fun t10 h =>
  condW t10
  (K (.ret (.bool false)) h)
  (runD (lenD T_sl_int h t0) h fun t12 h =>
  joinW (fun (J1 : List AObj → Prop) =>
  promV [false] [(.int .i64 0)] h fun lv h => slices_Equal_sl_int_int.L1 c J1 K (AV.norms h.length h lv) (normH h.length h) h.length (AV.norm h.length h t0) (AV.norm h.length h t1) (AV.norm h.length h t12))
  (fun h => K (.ret (.bool true)) h))
def slices_Clone_sl_int_int.loops : Nat → LInfo
  | _ => ⟨[], [], [], [], [], []⟩
def slices_Clone_sl_int_int.H (c : Ctx) (t0 : AV) (h : List AObj) (K : AOut → List AObj → Prop) : Prop :=
  nilEqO (AV.len T_sl_int h t0) h fun t4 h =>
  condW t4
  (K (.ret (.sl true (.ints .i64 []))) h)
  (runD (buildSliceD T_sl_int 0 [] h.length) h fun t5 h =>
  runDM (appendD T_sl_int h t5 t0 h.length) (appendH T_sl_int h t5 t0) h fun t7 h =>
  K (.ret t7) h)
def slices_Contains_sl_int_int.loops : Nat → LInfo
  | _ => ⟨[], [], [], [], [], []⟩
def slices_Contains_sl_int_int.H (c : Ctx) (t0 : AV) (t1 : AV) (h : List AObj) (K : AOut → List AObj → Prop) : Prop :=
  callW false c (.fn (.func 110) [] []) [t0, t1] h (fun t7 h =>
  runD (binD T_int .geq t7 (.int .i64 0)) h fun t8 h =>
  K (.ret t8) h)
  (fun v h => K (.pan v) h)
def slices_IndexFunc_sl_int_int.loops : Nat → LInfo
  | 2 => ⟨[8], [false], [0, 1, 7], [], [], []⟩
  | _ => ⟨[], [], [], [], [], []⟩
def slices_IndexFunc_sl_int_int.L1 (c : Ctx) (J1 : List AObj → Prop) (K : AOut → List AObj → Prop) (lv : List AV) (h0 : List AObj) (n0 : Nat) (c0 : AV) (c1 : AV) (c7 : AV) : Prop :=
  ∃ I : Nat → List AV → List AObj → Prop, (∃ n, I n lv h0) ∧ ∀ n h, ∀ t8, I n [t8] h →
    runD (binD T_int .lss t8 c7) h fun t9 h =>
    condW t9
    (runD (indexAddrD T_sl_int h c0 t8) h fun t14 h =>
    runD (fitD T_int (loadD h t14)) h fun t15 h =>
    callW false c c1 [t15] h (fun t16 h =>
    condW t16
    (K (.ret t8) h)
    (runD (binD T_int .add t8 (.int .i64 1)) h fun t18 h =>
    (∃ m, m < n ∧ I m (AV.norms n0 h [t18]) (normH n0 h)) ∧ AV.norms n0 h [c0, c1, c7] = [c0, c1, c7]))
    (fun v h => K (.pan v) h))
    (J1 h)
def slices_IndexFunc_sl_int_int.H (c : Ctx) (t0 : AV) (t1 : AV) (h : List AObj) (K : AOut → List AObj → Prop) : Prop :=
  runD (lenD T_sl_int h t0) h fun t7 h =>
  joinW (fun (J1 : List AObj → Prop) =>
  promV [false] [(.int .i64 0)] h fun lv h => slices_IndexFunc_sl_int_int.L1 c J1 K (AV.norms h.length h lv) (normH h.length h) h.length (AV.norm h.length h t0) (AV.norm h.length h t1) (AV.norm h.length h t7))
  (fun h => K (.ret (.int .i64 (-1))) h)
def slices_ContainsFunc_sl_int_int.loops : Nat → LInfo
  | _ => ⟨[], [], [], [], [], []⟩
def slices_ContainsFunc_sl_int_int.H (c : Ctx) (t0 : AV) (t1 : AV) (h : List AObj) (K : AOut → List AObj → Prop) : Prop :=
  callW false c (.fn (.func 89) [] []) [t0, t1] h (fun t7 h =>
  runD (binD T_int .geq t7 (.int .i64 0)) h fun t8 h =>
  K (.ret t8) h)
  (fun v h => K (.pan v) h)
def slices_Index_sl_int_int.loops : Nat → LInfo
  | 2 => ⟨[8], [false], [0, 1, 7], [], [], []⟩
  | _ => ⟨[], [], [], [], [], []⟩
def slices_Index_sl_int_int.L1 (c : Ctx) (J1 : List AObj → Prop) (K : AOut → List AObj → Prop) (lv : List AV) (h0 : List AObj) (n0 : Nat) (c0 : AV) (c1 : AV) (c7 : AV) : Prop :=
  ∃ I : Nat → List AV → List AObj → Prop, (∃ n, I n lv h0) ∧ ∀ n h, ∀ t8, I n [t8] h →
    runD (binD T_int .lss t8 c7) h fun t9 h =>
    condW t9
    (runD (indexAddrD T_sl_int h c0 t8) h fun t14 h =>
    runD (fitD T_int (loadD h t14)) h fun t15 h =>
    runD (binD T_int .eql c1 t15) h fun t16 h =>
    condW t16
    (K (.ret t8) h)
    (runD (binD T_int .add t8 (.int .i64 1)) h fun t18 h =>
    (∃ m, m < n ∧ I m (AV.norms n0 h [t18]) (normH n0 h)) ∧ AV.norms n0 h [c0, c1, c7] = [c0, c1, c7]))
    (J1 h)
def slices_Index_sl_int_int.H (c : Ctx) (t0 : AV) (t1 : AV) (h : List AObj) (K : AOut → List AObj → Prop) : Prop :=
  runD (lenD T_sl_int h t0) h fun t7 h =>
  joinW (fun (J1 : List AObj → Prop) =>
  promV [false] [(.int .i64 0)] h fun lv h => slices_Index_sl_int_int.L1 c J1 K (AV.norms h.length h lv) (normH h.length h) h.length (AV.norm h.length h t0) (AV.norm h.length h t1) (AV.norm h.length h t7))
  (fun h => K (.ret (.int .i64 (-1))) h)
def slices_Compact_sl_int_int.loops : Nat → LInfo
  | 4 => ⟨[3], [false], [0], [], [], []⟩
  | 9 => ⟨[3, 5], [false, false], [0, 4], [], [], []⟩
  | _ => ⟨[], [], [], [], [], []⟩
def slices_Compact_sl_int_int.L2 (c : Ctx) (J3 : AV → AV → List AObj → Prop) (K : AOut → List AObj → Prop) (lv : List AV) (h0 : List AObj) (n0 : Nat) (c0 : AV) (c4 : AV) : Prop :=
  ∃ I : Nat → List AV → List AObj → Prop, (∃ n, I n lv h0) ∧ ∀ n h, ∀ t3, ∀ t5, I n [t3, t5] h →
    runD (lenD T_sl_int h c4) h fun t31 h =>
    runD (binD T_int .lss t5 t31) h fun t32 h =>
    condW t32
    (runD (indexAddrD T_sl_int h c4 t5) h fun t37 h =>
    runD (fitD T_int (loadD h t37)) h fun t38 h =>
    runD (binD T_int .sub t5 (.int .i64 1)) h fun t41 h =>
    runD (indexAddrD T_sl_int h c4 t41) h fun t42 h =>
    runD (fitD T_int (loadD h t42)) h fun t43 h =>
    runD (binD T_int .neq t38 t43) h fun t44 h =>
    joinW (fun (J4 : AV → List AObj → Prop) =>
    condW t44
    (runD (indexAddrD T_sl_int h c4 t5) h fun t49 h =>
      runD (fitD T_int (loadD h t49)) h fun t50 h =>
      runD (indexAddrD T_sl_int h c0 t3) h fun t51 h =>
      runH (storeH T_int h t51 t50) h fun _ h =>
      runD (binD T_int .add t3 (.int .i64 1)) h fun t53 h =>
      J4 t53 h)
    (J4 t3 h))
    (fun t3 h => runD (binD T_int .add t5 (.int .i64 1)) h fun t34 h =>
    (∃ m, m < n ∧ I m (AV.norms n0 h [t3, t34]) (normH n0 h)) ∧ AV.norms n0 h [c0, c4] = [c0, c4]))
    (J3 c0 t3 h)
def slices_Compact_sl_int_int.L1 (c : Ctx) (J1 : AV → List AObj → Prop) (K : AOut → List AObj → Prop) (lv : List AV) (h0 : List AObj) (n0 : Nat) (c0 : AV) : Prop :=
  ∃ I : Nat → List AV → List AObj → Prop, (∃ n, I n lv h0) ∧ ∀ n h, ∀ t3, I n [t3] h →
    runD (lenD T_sl_int h c0) h fun t12 h =>
    runD (binD T_int .lss t3 t12) h fun t13 h =>
    condW t13
    (joinW (fun (J2 : AV → AV → List AObj → Prop) =>
    runD (indexAddrD T_sl_int h c0 t3) h fun t18 h =>
    runD (fitD T_int (loadD h t18)) h fun t19 h =>
    runD (binD T_int .sub t3 (.int .i64 1)) h fun t22 h =>
    runD (indexAddrD T_sl_int h c0 t22) h fun t23 h =>
    runD (fitD T_int (loadD h t23)) h fun t24 h =>
    runD (binD T_int .eql t19 t24) h fun t25 h =>
    condW t25
    (runD (sliceD T_sl_int h c0 (some t3) none none) h fun t28 h =>
      joinW (fun (J3 : AV → AV → List AObj → Prop) =>
      promV [false, false] [t3, (.int .i64 1)] h fun lv h => slices_Compact_sl_int_int.L2 c J3 K (AV.norms h.length h lv) (normH h.length h) h.length (AV.norm h.length h c0) (AV.norm h.length h t28))
      (fun t0 t3 h => runD (sliceD T_sl_int h t0 (some t3) none none) h fun t56 h =>
      runM (clearH T_sl_int h t56) h fun _ h =>
      runD (sliceD T_sl_int h t0 none (some t3) none) h fun t59 h =>
      K (.ret t59) h))
    (J2 c0 t3 h))
    (fun t0 t3 h => runD (binD T_int .add t3 (.int .i64 1)) h fun t15 h =>
    (∃ m, m < n ∧ I m (AV.norms n0 h [t15]) (normH n0 h)) ∧ AV.norms n0 h [t0] = [c0]))
    (J1 c0 h)
def slices_Compact_sl_int_int.H (c : Ctx) (t0 : AV) (h : List AObj) (K : AOut → List AObj → Prop) : Prop :=
  runD (lenD T_sl_int h t0) h fun t7 h =>
  runD (binD T_int .lss t7 (.int .i64 2)) h fun t8 h =>
  condW t8
  (K (.ret t0) h)
  (joinW (fun (J1 : AV → List AObj → Prop) =>
  promV [false] [(.int .i64 1)] h fun lv h => slices_Compact_sl_int_int.L1 c J1 K (AV.norms h.length h lv) (normH h.length h) h.length (AV.norm h.length h t0))
  (fun t0 h => K (.ret t0) h))
def slices_ContainsFunc_sl_api_Micro_api_Micro.loops : Nat → LInfo
  | _ => ⟨[], [], [], [], [], []⟩
def slices_ContainsFunc_sl_api_Micro_api_Micro.H (c : Ctx) (t0 : AV) (t1 : AV) (h : List AObj) (K : AOut → List AObj → Prop) : Prop :=
  callW false c (.fn (.func 146) [] []) [t0, t1] h (fun t7 h =>
  runD (binD T_int .geq t7 (.int .i64 0)) h fun t8 h =>
  K (.ret t8) h)
  (fun v h => K (.pan v) h)
def slices_IndexFunc_sl_api_Micro_api_Micro.loops : Nat → LInfo
  | 2 => ⟨[8], [false], [0, 1, 7], [], [], []⟩
  | _ => ⟨[], [], [], [], [], []⟩
def slices_IndexFunc_sl_api_Micro_api_Micro.L1 (c : Ctx) (J1 : List AObj → Prop) (K : AOut → List AObj → Prop) (lv : List AV) (h0 : List AObj) (n0 : Nat) (c0 : AV) (c1 : AV) (c7 : AV) : Prop :=
  ∃ I : Nat → List AV → List AObj → Prop, (∃ n, I n lv h0) ∧ ∀ n h, ∀ t8, I n [t8] h →
    runD (binD T_int .lss t8 c7) h fun t9 h =>
    condW t9
    (runD (indexAddrD T_sl_api_Micro h c0 t8) h fun t14 h =>
    runD (fitD T_api_Micro (loadD h t14)) h fun t15 h =>
    callW false c c1 [t15] h (fun t16 h =>
    condW t16
    (K (.ret t8) h)
    (runD (binD T_int .add t8 (.int .i64 1)) h fun t18 h =>
    (∃ m, m < n ∧ I m (AV.norms n0 h [t18]) (normH n0 h)) ∧ AV.norms n0 h [c0, c1, c7] = [c0, c1, c7]))
    (fun v h => K (.pan v) h))
    (J1 h)
def slices_IndexFunc_sl_api_Micro_api_Micro.H (c : Ctx) (t0 : AV) (t1 : AV) (h : List AObj) (K : AOut → List AObj → Prop) : Prop :=
  runD (lenD T_sl_api_Micro h t0) h fun t7 h =>
  joinW (fun (J1 : List AObj → Prop) =>
  promV [false] [(.int .i64 0)] h fun lv h => slices_IndexFunc_sl_api_Micro_api_Micro.L1 c J1 K (AV.norms h.length h lv) (normH h.length h) h.length (AV.norm h.length h t0) (AV.norm h.length h t1) (AV.norm h.length h t7))
  (fun h => K (.ret (.int .i64 (-1))) h)
def slices_Clip_sl_api_Pending_api_Pending.loops : Nat → LInfo
  | _ => ⟨[], [], [], [], [], []⟩
def slices_Clip_sl_api_Pending_api_Pending.H (c : Ctx) (t0 : AV) (h : List AObj) (K : AOut → List AObj → Prop) : Prop :=
  runD (lenD T_sl_api_Pending h t0) h fun t5 h =>
  runD (lenD T_sl_api_Pending h t0) h fun t7 h =>
  runD (sliceD T_sl_api_Pending h t0 none (some t5) (some t7)) h fun t8 h =>
  K (.ret t8) h
def slices_Clone_sl_api_Pending_api_Pending.loops : Nat → LInfo
  | _ => ⟨[], [], [], [], [], []⟩
def slices_Clone_sl_api_Pending_api_Pending.H (c : Ctx) (t0 : AV) (h : List AObj) (K : AOut → List AObj → Prop) : Prop :=
  nilEqO (AV.len T_sl_api_Pending h t0) h fun t4 h =>
  condW t4
  (K (.ret (.sl true (.pends []))) h)
  (runD (buildSliceD T_sl_api_Pending 0 [] h.length) h fun t5 h =>
  runDM (appendD T_sl_api_Pending h t5 t0 h.length) (appendH T_sl_api_Pending h t5 t0) h fun t7 h =>
  K (.ret t7) h)
theorem slices_Equal_sl_int_int.eq (F : List (FuncId × Contract)) (S : List (FuncId × Con)) (t0 t1 : AV) (h : List AObj) (K : AOut → List AObj → Prop) : funW (ctx F S slices_Equal_sl_int_int.loops) Try.f59 [t0, t1] h K = slices_Equal_sl_int_int.H (ctx F S slices_Equal_sl_int_int.loops) t0 t1 h K := by kernel_rfl
theorem slices_Clone_sl_int_int.eq (F : List (FuncId × Contract)) (S : List (FuncId × Con)) (t0 : AV) (h : List AObj) (K : AOut → List AObj → Prop) : funW (ctx F S slices_Clone_sl_int_int.loops) Try.f64 [t0] h K = slices_Clone_sl_int_int.H (ctx F S slices_Clone_sl_int_int.loops) t0 h K := by kernel_rfl
theorem slices_Contains_sl_int_int.eq (F : List (FuncId × Contract)) (S : List (FuncId × Con)) (t0 t1 : AV) (h : List AObj) (K : AOut → List AObj → Prop) : funW (ctx F S slices_Contains_sl_int_int.loops) Try.f83 [t0, t1] h K = slices_Contains_sl_int_int.H (ctx F S slices_Contains_sl_int_int.loops) t0 t1 h K := by kernel_rfl
theorem slices_IndexFunc_sl_int_int.eq (F : List (FuncId × Contract)) (S : List (FuncId × Con)) (t0 t1 : AV) (h : List AObj) (K : AOut → List AObj → Prop) : funW (ctx F S slices_IndexFunc_sl_int_int.loops) Try.f89 [t0, t1] h K = slices_IndexFunc_sl_int_int.H (ctx F S slices_IndexFunc_sl_int_int.loops) t0 t1 h K := by kernel_rfl
theorem slices_ContainsFunc_sl_int_int.eq (F : List (FuncId × Contract)) (S : List (FuncId × Con)) (t0 t1 : AV) (h : List AObj) (K : AOut → List AObj → Prop) : funW (ctx F S slices_ContainsFunc_sl_int_int.loops) Try.f99 [t0, t1] h K = slices_ContainsFunc_sl_int_int.H (ctx F S slices_ContainsFunc_sl_int_int.loops) t0 t1 h K := by kernel_rfl
theorem slices_Index_sl_int_int.eq (F : List (FuncId × Contract)) (S : List (FuncId × Con)) (t0 t1 : AV) (h : List AObj) (K : AOut → List AObj → Prop) : funW (ctx F S slices_Index_sl_int_int.loops) Try.f110 [t0, t1] h K = slices_Index_sl_int_int.H (ctx F S slices_Index_sl_int_int.loops) t0 t1 h K := by kernel_rfl
theorem slices_Compact_sl_int_int.eq (F : List (FuncId × Contract)) (S : List (FuncId × Con)) (t0 : AV) (h : List AObj) (K : AOut → List AObj → Prop) : funW (ctx F S slices_Compact_sl_int_int.loops) Try.f111 [t0] h K = slices_Compact_sl_int_int.H (ctx F S slices_Compact_sl_int_int.loops) t0 h K := by kernel_rfl
theorem slices_ContainsFunc_sl_api_Micro_api_Micro.eq (F : List (FuncId × Contract)) (S : List (FuncId × Con)) (t0 t1 : AV) (h : List AObj) (K : AOut → List AObj → Prop) : funW (ctx F S slices_ContainsFunc_sl_api_Micro_api_Micro.loops) Try.f129 [t0, t1] h K = slices_ContainsFunc_sl_api_Micro_api_Micro.H (ctx F S slices_ContainsFunc_sl_api_Micro_api_Micro.loops) t0 t1 h K := by kernel_rfl
theorem slices_IndexFunc_sl_api_Micro_api_Micro.eq (F : List (FuncId × Contract)) (S : List (FuncId × Con)) (t0 t1 : AV) (h : List AObj) (K : AOut → List AObj → Prop) : funW (ctx F S slices_IndexFunc_sl_api_Micro_api_Micro.loops) Try.f146 [t0, t1] h K = slices_IndexFunc_sl_api_Micro_api_Micro.H (ctx F S slices_IndexFunc_sl_api_Micro_api_Micro.loops) t0 t1 h K := by kernel_rfl
theorem slices_Clip_sl_api_Pending_api_Pending.eq (F : List (FuncId × Contract)) (S : List (FuncId × Con)) (t0 : AV) (h : List AObj) (K : AOut → List AObj → Prop) : funW (ctx F S slices_Clip_sl_api_Pending_api_Pending.loops) Try.f160 [t0] h K = slices_Clip_sl_api_Pending_api_Pending.H (ctx F S slices_Clip_sl_api_Pending_api_Pending.loops) t0 h K := by kernel_rfl
theorem slices_Clone_sl_api_Pending_api_Pending.eq (F : List (FuncId × Contract)) (S : List (FuncId × Con)) (t0 : AV) (h : List AObj) (K : AOut → List AObj → Prop) : funW (ctx F S slices_Clone_sl_api_Pending_api_Pending.loops) Try.f162 [t0] h K = slices_Clone_sl_api_Pending_api_Pending.H (ctx F S slices_Clone_sl_api_Pending_api_Pending.loops) t0 h K := by kernel_rfl
theorem slices_Equal_sl_int_int.at : Try.prog.funcs[59]? = some Try.f59 := by kernel_rfl
theorem slices_Equal_sl_int_int.nm : (Try.f59.name == "runtime.NumGoroutine") = false := by kernel_rfl
theorem slices_Equal_sl_int_int.bd : Try.f59.body.isNone = false := by kernel_rfl
theorem slices_Clone_sl_int_int.at : Try.prog.funcs[64]? = some Try.f64 := by kernel_rfl
theorem slices_Clone_sl_int_int.nm : (Try.f64.name == "runtime.NumGoroutine") = false := by kernel_rfl
theorem slices_Clone_sl_int_int.bd : Try.f64.body.isNone = false := by kernel_rfl
theorem slices_Contains_sl_int_int.at : Try.prog.funcs[83]? = some Try.f83 := by kernel_rfl
theorem slices_Contains_sl_int_int.nm : (Try.f83.name == "runtime.NumGoroutine") = false := by kernel_rfl
theorem slices_Contains_sl_int_int.bd : Try.f83.body.isNone = false := by kernel_rfl
theorem slices_IndexFunc_sl_int_int.at : Try.prog.funcs[89]? = some Try.f89 := by kernel_rfl
theorem slices_IndexFunc_sl_int_int.nm : (Try.f89.name == "runtime.NumGoroutine") = false := by kernel_rfl
theorem slices_IndexFunc_sl_int_int.bd : Try.f89.body.isNone = false := by kernel_rfl
theorem slices_ContainsFunc_sl_int_int.at : Try.prog.funcs[99]? = some Try.f99 := by kernel_rfl
theorem slices_ContainsFunc_sl_int_int.nm : (Try.f99.name == "runtime.NumGoroutine") = false := by kernel_rfl
theorem slices_ContainsFunc_sl_int_int.bd : Try.f99.body.isNone = false := by kernel_rfl
theorem slices_Index_sl_int_int.at : Try.prog.funcs[110]? = some Try.f110 := by kernel_rfl
theorem slices_Index_sl_int_int.nm : (Try.f110.name == "runtime.NumGoroutine") = false := by kernel_rfl
theorem slices_Index_sl_int_int.bd : Try.f110.body.isNone = false := by kernel_rfl
theorem slices_Compact_sl_int_int.at : Try.prog.funcs[111]? = some Try.f111 := by kernel_rfl
theorem slices_Compact_sl_int_int.nm : (Try.f111.name == "runtime.NumGoroutine") = false := by kernel_rfl
theorem slices_Compact_sl_int_int.bd : Try.f111.body.isNone = false := by kernel_rfl
theorem slices_ContainsFunc_sl_api_Micro_api_Micro.at : Try.prog.funcs[129]? = some Try.f129 := by kernel_rfl
theorem slices_ContainsFunc_sl_api_Micro_api_Micro.nm : (Try.f129.name == "runtime.NumGoroutine") = false := by kernel_rfl
theorem slices_ContainsFunc_sl_api_Micro_api_Micro.bd : Try.f129.body.isNone = false := by kernel_rfl
theorem slices_IndexFunc_sl_api_Micro_api_Micro.at : Try.prog.funcs[146]? = some Try.f146 := by kernel_rfl
theorem slices_IndexFunc_sl_api_Micro_api_Micro.nm : (Try.f146.name == "runtime.NumGoroutine") = false := by kernel_rfl
theorem slices_IndexFunc_sl_api_Micro_api_Micro.bd : Try.f146.body.isNone = false := by kernel_rfl
theorem slices_Clip_sl_api_Pending_api_Pending.at : Try.prog.funcs[160]? = some Try.f160 := by kernel_rfl
theorem slices_Clip_sl_api_Pending_api_Pending.nm : (Try.f160.name == "runtime.NumGoroutine") = false := by kernel_rfl
theorem slices_Clip_sl_api_Pending_api_Pending.bd : Try.f160.body.isNone = false := by kernel_rfl
theorem slices_Clone_sl_api_Pending_api_Pending.at : Try.prog.funcs[162]? = some Try.f162 := by kernel_rfl
theorem slices_Clone_sl_api_Pending_api_Pending.nm : (Try.f162.name == "runtime.NumGoroutine") = false := by kernel_rfl
theorem slices_Clone_sl_api_Pending_api_Pending.bd : Try.f162.body.isNone = false := by kernel_rfl
end Lam
namespace Lam
open Go Go.Proofs
set_option linter.unusedVariables false
def fast_Delete.loops : Nat → LInfo
  | 1 => ⟨[], [], [], [(5, none), (2, some [14, 16]), (2, none), (4, some [18, 22])], [], []⟩
  | 5 => ⟨[8, 29], [true, false], [0, 1, 2, 28], [], [], []⟩
  | _ => ⟨[], [], [], [], [], []⟩
def fast_Delete.L1 (c : Ctx) (J3 : AV → AV → AV → List AObj → Prop) (K : AOut → List AObj → Prop) (lv : List AV) (h0 : List AObj) (n0 : Nat) (c0 : AV) (c1 : AV) (c2 : AV) (c28 : AV) : Prop :=
  ∃ I : Nat → List AV → List AObj → Prop, (∃ n, I n lv h0) ∧ ∀ n h, ∀ t8, ∀ t29, I n [t8, t29] h →
    runD (binD T_int .lss t29 c28) h fun t30 h =>
    condW t30
    (runD (binD T_int .add c2 t29) h fun t35 h =>
    runD (binD T_int .add c2 t29) h fun t39 h =>
    runD (binD T_int .add t39 (.int .i64 1)) h fun t40 h =>
    runD (indexAddrD T_sl_int h c1 t40) h fun t41 h =>
    runD (fitD T_int (loadD h t41)) h fun t42 h =>
    runD (buildD T_fast_slot [(0, t35), (1, t42)]) h fun t43 h =>
    runD (buildSliceD T_sl_fast_slot 1 [(0, t43)] h.length) h fun t44 h =>
    runDM (appendD T_sl_fast_slot h t8 t44 h.length) (appendH T_sl_fast_slot h t8 t44) h fun t45 h =>
    runD (binD T_int .add t29 (.int .i64 1)) h fun t46 h =>
    (∃ m, m < n ∧ I m (AV.norms n0 h [t45, t46]) (normH n0 h)) ∧ AV.norms n0 h [c0, c1, c2, c28] = [c0, c1, c2, c28])
    (J3 c0 c1 t8 h)
def fast_Delete.H (c : Ctx) (t0 : AV) (t1 : AV) (t2 : AV) (h : List AObj) (K : AOut → List AObj → Prop) : Prop :=
  callW false c (.fn (.func 76) [] []) [t0, t1] h (fun t12 h =>
  runD (unD .not t12) h fun t13 h =>
  joinW (fun (J1 : AV → AV → List AObj → Prop) =>
  guardW t13 false
  (runD (binD T_int .lss t2 (.int .i64 0)) h fun t16 h =>
    J1 (.bool false) t16 h)
  (J1 (.bool true) .und h))
  (fun t14 t16 h => runD (pickD t14 (.bool true) t16) h fun t17 h =>
  joinW (fun (J2 : AV → AV → List AObj → Prop) =>
  guardW t17 false
  (runD (lenD T_sl_int h t1) h fun t21 h =>
    runD (binD T_int .geq t2 t21) h fun t22 h =>
    J2 (.bool false) t22 h)
  (J2 (.bool true) .und h))
  (fun t18 t22 h => runD (pickD t18 (.bool true) t22) h fun t23 h =>
  condW t23
  (K (.ret (.tup [(.sl true (.mics [])), (.int .i64 1)])) h)
  (runD (lenD T_sl_int h t1) h fun t25 h =>
  runD (binD T_int .sub t25 (.int .i64 1)) h fun t26 h =>
  runD (binD T_int .sub t26 t2) h fun t28 h =>
  joinW (fun (J3 : AV → AV → AV → List AObj → Prop) =>
  promV [true, false] [(.sl true (.slots [])), (.int .i64 0)] h fun lv h => fast_Delete.L1 c J3 K (AV.norms h.length h lv) (normH h.length h) h.length (AV.norm h.length h t0) (AV.norm h.length h t1) (AV.norm h.length h t2) (AV.norm h.length h t28))
  (fun t0 t1 t8 h => runD (lenD T_sl_int h t1) h fun t50 h =>
  runD (binD T_int .sub t50 (.int .i64 1)) h fun t51 h =>
  runD (buildD T_fast_slot [(0, t51), (1, (.int .i64 0))]) h fun t52 h =>
  runD (buildSliceD T_sl_fast_slot 1 [(0, t52)] h.length) h fun t53 h =>
  runDM (appendD T_sl_fast_slot h t8 t53 h.length) (appendH T_sl_fast_slot h t8 t53) h fun t54 h =>
  callW false c (.fn (.func 77) [] []) [t0, t54] h (fun t55 h =>
  K (.ret (.tup [t55, (.int .i64 0)])) h)
  (fun v h => K (.pan v) h))))))
  (fun v h => K (.pan v) h)
def fast_Insert.loops : Nat → LInfo
  | 1 => ⟨[], [], [], [(5, none), (2, some [18, 20]), (2, none), (2, some [22, 24]), (2, none), (4, some [26, 30])], [], []⟩
  | 7 => ⟨[10, 40], [true, false], [0, 1, 2, 3, 39], [], [], []⟩
  | _ => ⟨[], [], [], [], [], []⟩
def fast_Insert.L1 (c : Ctx) (J4 : AV → AV → AV → AV → List AObj → Prop) (K : AOut → List AObj → Prop) (lv : List AV) (h0 : List AObj) (n0 : Nat) (c0 : AV) (c1 : AV) (c2 : AV) (c3 : AV) (c39 : AV) : Prop :=
  ∃ I : Nat → List AV → List AObj → Prop, (∃ n, I n lv h0) ∧ ∀ n h, ∀ t10, ∀ t40, I n [t10, t40] h →
    runD (binD T_int .lss t40 c39) h fun t41 h =>
    condW t41
    (runD (lenD T_sl_int h c1) h fun t44 h =>
    runD (binD T_int .sub t44 t40) h fun t46 h =>
    runD (binD T_int .sub t46 (.int .i64 1)) h fun t51 h =>
    runD (indexAddrD T_sl_int h c1 t51) h fun t52 h =>
    runD (fitD T_int (loadD h t52)) h fun t53 h =>
    runD (buildD T_fast_slot [(0, t46), (1, t53)]) h fun t54 h =>
    runD (buildSliceD T_sl_fast_slot 1 [(0, t54)] h.length) h fun t55 h =>
    runDM (appendD T_sl_fast_slot h t10 t55 h.length) (appendH T_sl_fast_slot h t10 t55) h fun t56 h =>
    runD (binD T_int .add t40 (.int .i64 1)) h fun t57 h =>
    (∃ m, m < n ∧ I m (AV.norms n0 h [t56, t57]) (normH n0 h)) ∧ AV.norms n0 h [c0, c1, c2, c3, c39] = [c0, c1, c2, c3, c39])
    (J4 c0 c2 c3 t10 h)
def fast_Insert.H (c : Ctx) (t0 : AV) (t1 : AV) (t2 : AV) (t3 : AV) (h : List AObj) (K : AOut → List AObj → Prop) : Prop :=
  callW false c (.fn (.func 76) [] []) [t0, t1] h (fun t16 h =>
  runD (unD .not t16) h fun t17 h =>
  joinW (fun (J1 : AV → AV → List AObj → Prop) =>
  guardW t17 false
  (runD (binD T_int .lss t3 (.int .i64 1)) h fun t20 h =>
    J1 (.bool false) t20 h)
  (J1 (.bool true) .und h))
  (fun t18 t20 h => runD (pickD t18 (.bool true) t20) h fun t21 h =>
  joinW (fun (J2 : AV → AV → List AObj → Prop) =>
  guardW t21 false
  (runD (binD T_int .lss t2 (.int .i64 0)) h fun t24 h =>
    J2 (.bool false) t24 h)
  (J2 (.bool true) .und h))
  (fun t22 t24 h => runD (pickD t22 (.bool true) t24) h fun t25 h =>
  joinW (fun (J3 : AV → AV → List AObj → Prop) =>
  guardW t25 false
  (runD (lenD T_sl_int h t1) h fun t29 h =>
    runD (binD T_int .gtr t2 t29) h fun t30 h =>
    J3 (.bool false) t30 h)
  (J3 (.bool true) .und h))
  (fun t26 t30 h => runD (pickD t26 (.bool true) t30) h fun t31 h =>
  condW t31
  (K (.ret (.tup [(.sl true (.mics [])), (.int .i64 1)])) h)
  (runD (lenD T_sl_int h t1) h fun t34 h =>
    runD (binD T_int .eql t34 (.int .i64 13)) h fun t35 h =>
    condW t35
    (K (.ret (.tup [(.sl true (.mics [])), (.int .i64 100)])) h)
    (runD (lenD T_sl_int h t1) h fun t37 h =>
  runD (binD T_int .sub t37 t2) h fun t39 h =>
  joinW (fun (J4 : AV → AV → AV → AV → List AObj → Prop) =>
  promV [true, false] [(.sl true (.slots [])), (.int .i64 0)] h fun lv h => fast_Insert.L1 c J4 K (AV.norms h.length h lv) (normH h.length h) h.length (AV.norm h.length h t0) (AV.norm h.length h t1) (AV.norm h.length h t2) (AV.norm h.length h t3) (AV.norm h.length h t39))
  (fun t0 t2 t3 t10 h => runD (buildD T_fast_slot [(0, t2), (1, t3)]) h fun t62 h =>
  runD (buildSliceD T_sl_fast_slot 1 [(0, t62)] h.length) h fun t63 h =>
  runDM (appendD T_sl_fast_slot h t10 t63 h.length) (appendH T_sl_fast_slot h t10 t63) h fun t64 h =>
  callW false c (.fn (.func 77) [] []) [t0, t64] h (fun t65 h =>
  K (.ret (.tup [t65, (.int .i64 0)])) h)
  (fun v h => K (.pan v) h))))))))
  (fun v h => K (.pan v) h)
def fast_Cut.loops : Nat → LInfo
  | 1 => ⟨[], [], [], [(5, none), (2, some [14, 16]), (2, none), (4, some [18, 22])], [], []⟩
  | 5 => ⟨[8, 28], [true, false], [0, 1, 27], [], [], []⟩
  | _ => ⟨[], [], [], [], [], []⟩
def fast_Cut.L1 (c : Ctx) (J3 : AV → AV → List AObj → Prop) (K : AOut → List AObj → Prop) (lv : List AV) (h0 : List AObj) (n0 : Nat) (c0 : AV) (c1 : AV) (c27 : AV) : Prop :=
  ∃ I : Nat → List AV → List AObj → Prop, (∃ n, I n lv h0) ∧ ∀ n h, ∀ t8, ∀ t28, I n [t8, t28] h →
    runD (binD T_int .lss t28 c27) h fun t29 h =>
    condW t29
    (runD (lenD T_sl_int h c1) h fun t33 h =>
    runD (binD T_int .sub t33 (.int .i64 1)) h fun t34 h =>
    runD (binD T_int .sub t34 t28) h fun t36 h =>
    runD (buildD T_fast_slot [(0, t36), (1, (.int .i64 0))]) h fun t37 h =>
    runD (buildSliceD T_sl_fast_slot 1 [(0, t37)] h.length) h fun t38 h =>
    runDM (appendD T_sl_fast_slot h t8 t38 h.length) (appendH T_sl_fast_slot h t8 t38) h fun t39 h =>
    runD (binD T_int .add t28 (.int .i64 1)) h fun t40 h =>
    (∃ m, m < n ∧ I m (AV.norms n0 h [t39, t40]) (normH n0 h)) ∧ AV.norms n0 h [c0, c1, c27] = [c0, c1, c27])
    (J3 c0 t8 h)
def fast_Cut.H (c : Ctx) (t0 : AV) (t1 : AV) (t2 : AV) (h : List AObj) (K : AOut → List AObj → Prop) : Prop :=
  callW false c (.fn (.func 76) [] []) [t0, t1] h (fun t12 h =>
  runD (unD .not t12) h fun t13 h =>
  joinW (fun (J1 : AV → AV → List AObj → Prop) =>
  guardW t13 false
  (runD (binD T_int .lss t2 (.int .i64 0)) h fun t16 h =>
    J1 (.bool false) t16 h)
  (J1 (.bool true) .und h))
  (fun t14 t16 h => runD (pickD t14 (.bool true) t16) h fun t17 h =>
  joinW (fun (J2 : AV → AV → List AObj → Prop) =>
  guardW t17 false
  (runD (lenD T_sl_int h t1) h fun t21 h =>
    runD (binD T_int .gtr t2 t21) h fun t22 h =>
    J2 (.bool false) t22 h)
  (J2 (.bool true) .und h))
  (fun t18 t22 h => runD (pickD t18 (.bool true) t22) h fun t23 h =>
  condW t23
  (K (.ret (.tup [(.sl true (.mics [])), (.int .i64 1)])) h)
  (runD (lenD T_sl_int h t1) h fun t25 h =>
  runD (binD T_int .sub t25 t2) h fun t27 h =>
  joinW (fun (J3 : AV → AV → List AObj → Prop) =>
  promV [true, false] [(.sl true (.slots [])), (.int .i64 0)] h fun lv h => fast_Cut.L1 c J3 K (AV.norms h.length h lv) (normH h.length h) h.length (AV.norm h.length h t0) (AV.norm h.length h t1) (AV.norm h.length h t27))
  (fun t0 t8 h => callW false c (.fn (.func 77) [] []) [t0, t8] h (fun t43 h =>
  K (.ret (.tup [t43, (.int .i64 0)])) h)
  (fun v h => K (.pan v) h))))))
  (fun v h => K (.pan v) h)
def fast_Swap.loops : Nat → LInfo
  | 1 => ⟨[], [], [], [(5, none), (2, some [14, 16]), (2, none), (2, some [18, 20]), (2, none), (4, some [22, 26])], [], []⟩
  | _ => ⟨[], [], [], [], [], []⟩
def fast_Swap.H (c : Ctx) (t0 : AV) (t1 : AV) (t2 : AV) (t3 : AV) (h : List AObj) (K : AOut → List AObj → Prop) : Prop :=
  callW false c (.fn (.func 76) [] []) [t0, t1] h (fun t12 h =>
  runD (unD .not t12) h fun t13 h =>
  joinW (fun (J1 : AV → AV → List AObj → Prop) =>
  guardW t13 false
  (runD (binD T_int .lss t3 (.int .i64 1)) h fun t16 h =>
    J1 (.bool false) t16 h)
  (J1 (.bool true) .und h))
  (fun t14 t16 h => runD (pickD t14 (.bool true) t16) h fun t17 h =>
  joinW (fun (J2 : AV → AV → List AObj → Prop) =>
  guardW t17 false
  (runD (binD T_int .lss t2 (.int .i64 0)) h fun t20 h =>
    J2 (.bool false) t20 h)
  (J2 (.bool true) .und h))
  (fun t18 t20 h => runD (pickD t18 (.bool true) t20) h fun t21 h =>
  joinW (fun (J3 : AV → AV → List AObj → Prop) =>
  guardW t21 false
  (runD (lenD T_sl_int h t1) h fun t25 h =>
    runD (binD T_int .geq t2 t25) h fun t26 h =>
    J3 (.bool false) t26 h)
  (J3 (.bool true) .und h))
  (fun t22 t26 h => runD (pickD t22 (.bool true) t26) h fun t27 h =>
  condW t27
  (K (.ret (.tup [(.sl true (.mics [])), (.int .i64 1)])) h)
  (runD (buildD T_fast_slot [(0, t2), (1, t3)]) h fun t31 h =>
  runD (buildSliceD T_sl_fast_slot 1 [(0, t31)] h.length) h fun t32 h =>
  callW false c (.fn (.func 77) [] []) [t0, t32] h (fun t33 h =>
  K (.ret (.tup [t33, (.int .i64 0)])) h)
  (fun v h => K (.pan v) h))))))
  (fun v h => K (.pan v) h)
def fast_Slots.loops : Nat → LInfo
  | 1 => ⟨[], [], [], [(4, none), (5, some [10, 15])], [], []⟩
  | _ => ⟨[], [], [], [], [], []⟩
def fast_Slots.H (c : Ctx) (t0 : AV) (t1 : AV) (h : List AObj) (K : AOut → List AObj → Prop) : Prop :=
  callW false c (.fn (.func 88) [] []) [t1] h (fun t8 h =>
  runD (unD .not t8) h fun t9 h =>
  joinW (fun (J1 : AV → AV → List AObj → Prop) =>
  guardW t9 false
  (runD (binD T_int .add t1 (.int .i64 16)) h fun t12 h =>
    runD (lenD T_sl_int h t0) h fun t14 h =>
    runD (binD T_int .gtr t12 t14) h fun t15 h =>
    J1 (.bool false) t15 h)
  (J1 (.bool true) .und h))
  (fun t10 t15 h => runD (pickD t10 (.bool true) t15) h fun t16 h =>
  condW t16
  (K (.ret (.sl true (.ints .i64 []))) h)
  (runD (binD T_int .add t1 (.int .i64 3)) h fun t19 h =>
  runD (binD T_int .add t1 (.int .i64 16)) h fun t21 h =>
  runD (binD T_int .add t1 (.int .i64 16)) h fun t23 h =>
  runD (sliceD T_sl_int h t0 (some t19) (some t21) (some t23)) h fun t24 h =>
  callW false c (.fn (.func 89) [] []) [t24, (.fn (.func 90) [] [])] h (fun t26 h =>
  runD (binD T_int .lss t26 (.int .i64 0)) h fun t28 h =>
  joinW (fun (J2 : AV → List AObj → Prop) =>
  condW t28
  (runD (lenD T_sl_int h t24) h fun t30 h =>
    J2 t30 h)
  (J2 t26 h))
  (fun t6 h => runD (sliceD T_sl_int h t24 none (some t6) none) h fun t33 h =>
  callW false c (.fn (.func 64) [] []) [t33] h (fun t34 h =>
  K (.ret t34) h)
  (fun v h => K (.pan v) h)))
  (fun v h => K (.pan v) h))))
  (fun v h => K (.pan v) h)
def fast_Place.loops : Nat → LInfo
  | 1 => ⟨[], [], [], [(4, none), (2, some [8, 10]), (2, none), (2, some [12, 14])], [], []⟩
  | _ => ⟨[], [], [], [], [], []⟩
def fast_Place.H (c : Ctx) (t0 : AV) (t1 : AV) (h : List AObj) (K : AOut → List AObj → Prop) : Prop :=
  callW false c (.fn (.func 88) [] []) [t0] h (fun t6 h =>
  runD (unD .not t6) h fun t7 h =>
  joinW (fun (J1 : AV → AV → List AObj → Prop) =>
  guardW t7 false
  (runD (binD T_int .lss t1 (.int .i64 0)) h fun t10 h =>
    J1 (.bool false) t10 h)
  (J1 (.bool true) .und h))
  (fun t8 t10 h => runD (pickD t8 (.bool true) t10) h fun t11 h =>
  joinW (fun (J2 : AV → AV → List AObj → Prop) =>
  guardW t11 false
  (runD (binD T_int .geq t1 (.int .i64 13)) h fun t14 h =>
    J2 (.bool false) t14 h)
  (J2 (.bool true) .und h))
  (fun t12 t14 h => runD (pickD t12 (.bool true) t14) h fun t15 h =>
  condW t15
  (K (.ret (.int .i64 (-1))) h)
  (runD (binD T_int .add t0 (.int .i64 3)) h fun t17 h =>
  runD (binD T_int .add t17 t1) h fun t19 h =>
  K (.ret t19) h))))
  (fun v h => K (.pan v) h)
def fast_may.loops : Nat → LInfo
  | 1 => ⟨[], [], [], [(3, none), (3, some [7, 10]), (2, none), (3, some [12, 15])], [], []⟩
  | _ => ⟨[], [], [], [], [], []⟩
def fast_may.H (c : Ctx) (t0 : AV) (t1 : AV) (h : List AObj) (K : AOut → List AObj → Prop) : Prop :=
  callW false c (.fn (.func 88) [] []) [t0] h (fun t6 h =>
  joinW (fun (J1 : AV → AV → List AObj → Prop) =>
  guardW t6 true
  (runD (lenD T_sl_int h t1) h fun t9 h =>
    runD (binD T_int .leq t9 (.int .i64 13)) h fun t10 h =>
    J1 (.bool true) t10 h)
  (J1 (.bool false) .und h))
  (fun t7 t10 h => runD (pickD t7 t10 (.bool false)) h fun t11 h =>
  joinW (fun (J2 : AV → AV → List AObj → Prop) =>
  guardW t11 true
  (callW false c (.fn (.func 99) [] []) [t1, (.fn (.func 106) [] [])] h (fun t14 h =>
    runD (unD .not t14) h fun t15 h =>
    J2 (.bool true) t15 h)
    (fun v h => K (.pan v) h))
  (J2 (.bool false) .und h))
  (fun t12 t15 h => runD (pickD t12 t15 (.bool false)) h fun t16 h =>
  K (.ret t16) h)))
  (fun v h => K (.pan v) h)
def fast_stored.loops : Nat → LInfo
  | 2 => ⟨[4, 10], [true, false], [0, 1, 8, 9], [], [], []⟩
  | 6 => ⟨[], [], [], [(6, none), (12, some [31, 43])], [], []⟩
  | _ => ⟨[], [], [], [], [], []⟩
def fast_stored.L1 (c : Ctx) (J1 : AV → List AObj → Prop) (K : AOut → List AObj → Prop) (lv : List AV) (h0 : List AObj) (n0 : Nat) (c0 : AV) (c1 : AV) (c8 : AV) (c9 : AV) : Prop :=
  ∃ I : Nat → List AV → List AObj → Prop, (∃ n, I n lv h0) ∧ ∀ n h, ∀ t4, ∀ t10, I n [t4, t10] h →
    runD (binD T_int .lss t10 c9) h fun t11 h =>
    condW t11
    (runD (indexAddrD T_sl_fast_slot h c8 t10) h fun t13 h =>
    runD (fitD T_fast_slot (loadD h t13)) h fun t14 h =>
    allocW T_fast_slot h fun t6 h =>
    runH (storeH T_fast_slot h t6 t14) h fun _ h =>
    runD (fieldAddrD T_fast_slot t6 0) h fun t16 h =>
    runD (fitD T_int (loadD h t16)) h fun t17 h =>
    callW false c (.fn (.func 63) [] []) [c0, t17] h (fun t18 h =>
    runD (fieldAddrD T_fast_slot t6 1) h fun t21 h =>
    runD (fitD T_int (loadD h t21)) h fun t22 h =>
    runD (buildD T_api_Micro [(0, (.int .i64 1)), (1, t18), (2, t22)]) h fun t23 h =>
    runD (buildSliceD T_sl_api_Micro 1 [(0, t23)] h.length) h fun t24 h =>
    runDM (appendD T_sl_api_Micro h t4 t24 h.length) (appendH T_sl_api_Micro h t4 t24) h fun t25 h =>
    runD (binD T_int .add t10 (.int .i64 1)) h fun t27 h =>
    runD (lenD T_sl_fast_slot h c1) h fun t29 h =>
    runD (binD T_int .eql t27 t29) h fun t30 h =>
    joinW (fun (J2 : AV → AV → List AObj → Prop) =>
    guardW t30 false
    (runD (binD T_int .add t10 (.int .i64 1)) h fun t35 h =>
      runD (indexAddrD T_sl_fast_slot h c1 t35) h fun t36 h =>
      runD (fieldAddrD T_fast_slot t36 0) h fun t37 h =>
      runD (fitD T_int (loadD h t37)) h fun t38 h =>
      callW false c (.fn (.func 63) [] []) [c0, t38] h (fun t39 h =>
      runD (binD T_int .quo t39 (.int .i64 8)) h fun t40 h =>
      runD (binD T_int .quo t18 (.int .i64 8)) h fun t42 h =>
      runD (binD T_int .neq t40 t42) h fun t43 h =>
      J2 (.bool false) t43 h)
      (fun v h => K (.pan v) h))
    (J2 (.bool true) .und h))
    (fun t31 t43 h => runD (pickD t31 (.bool true) t43) h fun t44 h =>
    joinW (fun (J3 : AV → List AObj → Prop) =>
    condW t44
    (runD (binD T_int .quo t18 (.int .i64 8)) h fun t47 h =>
      runD (buildD T_api_Micro [(0, (.int .i64 2)), (1, t47)]) h fun t48 h =>
      runD (buildSliceD T_sl_api_Micro 1 [(0, t48)] h.length) h fun t49 h =>
      runDM (appendD T_sl_api_Micro h t25 t49 h.length) (appendH T_sl_api_Micro h t25 t49) h fun t50 h =>
      J3 t50 h)
    (J3 t25 h))
    (fun t4 h => runD (binD T_int .add t10 (.int .i64 1)) h fun t51 h =>
    (∃ m, m < n ∧ I m (AV.norms n0 h [t4, t51]) (normH n0 h)) ∧ AV.norms n0 h [c0, c1, c8, c9] = [c0, c1, c8, c9])))
    (fun v h => K (.pan v) h))
    (J1 t4 h)
def fast_stored.H (c : Ctx) (t0 : AV) (t1 : AV) (h : List AObj) (K : AOut → List AObj → Prop) : Prop :=
  runD (lenD T_sl_fast_slot h t1) h fun t9 h =>
  joinW (fun (J1 : AV → List AObj → Prop) =>
  promV [true, false] [(.sl true (.mics [])), (.int .i64 0)] h fun lv h => fast_stored.L1 c J1 K (AV.norms h.length h lv) (normH h.length h) h.length (AV.norm h.length h t0) (AV.norm h.length h t1) (AV.norm h.length h t1) (AV.norm h.length h t9))
  (fun t4 h => callW false c (.fn (.func 107) [] []) [t4, (.int .i64 4096)] h (fun t53 h =>
  runD (unD .not t53) h fun t54 h =>
  condW t54
  (K (.ret (.sl true (.mics []))) h)
  (K (.ret t4) h))
  (fun v h => K (.pan v) h))
def fast_Plain.loops : Nat → LInfo
  | _ => ⟨[], [], [], [], [], []⟩
def fast_Plain.H (c : Ctx) (t0 : AV) (h : List AObj) (K : AOut → List AObj → Prop) : Prop :=
  callW false c (.fn (.func 64) [] []) [t0] h (fun t4 h =>
  callW false c (.fn (.func 111) [] []) [t4] h (fun t5 h =>
  K (.ret t5) h)
  (fun v h => K (.pan v) h))
  (fun v h => K (.pan v) h)
def fast_node.loops : Nat → LInfo
  | 1 => ⟨[], [], [], [(3, none), (3, some [5, 8]), (2, none), (3, some [10, 13])], [], []⟩
  | _ => ⟨[], [], [], [], [], []⟩
def fast_node.H (c : Ctx) (t0 : AV) (h : List AObj) (K : AOut → List AObj → Prop) : Prop :=
  runD (binD T_int .geq t0 (.int .i64 0)) h fun t4 h =>
  joinW (fun (J1 : AV → AV → List AObj → Prop) =>
  guardW t4 true
  (runD (binD T_int .add t0 (.int .i64 16)) h fun t7 h =>
    runD (binD T_int .leq t7 (.int .i64 4096)) h fun t8 h =>
    J1 (.bool true) t8 h)
  (J1 (.bool false) .und h))
  (fun t5 t8 h => runD (pickD t5 t8 (.bool false)) h fun t9 h =>
  joinW (fun (J2 : AV → AV → List AObj → Prop) =>
  guardW t9 true
  (runD (binD T_int .rem t0 (.int .i64 16)) h fun t12 h =>
    runD (binD T_int .eql t12 (.int .i64 0)) h fun t13 h =>
    J2 (.bool true) t13 h)
  (J2 (.bool false) .und h))
  (fun t10 t13 h => runD (pickD t10 t13 (.bool false)) h fun t14 h =>
  K (.ret t14) h))
def fast_Slots_1.loops : Nat → LInfo
  | _ => ⟨[], [], [], [], [], []⟩
def fast_Slots_1.H (c : Ctx) (t0 : AV) (h : List AObj) (K : AOut → List AObj → Prop) : Prop :=
  runD (binD T_int .lss t0 (.int .i64 1)) h fun t4 h =>
  K (.ret t4) h
def fast_may_1.loops : Nat → LInfo
  | _ => ⟨[], [], [], [], [], []⟩
def fast_may_1.H (c : Ctx) (t0 : AV) (h : List AObj) (K : AOut → List AObj → Prop) : Prop :=
  runD (binD T_int .lss t0 (.int .i64 1)) h fun t4 h =>
  K (.ret t4) h
theorem fast_Delete.eq (F : List (FuncId × Contract)) (S : List (FuncId × Con)) (t0 t1 t2 : AV) (h : List AObj) (K : AOut → List AObj → Prop) : funW (ctx F S fast_Delete.loops) Try.f39 [t0, t1, t2] h K = fast_Delete.H (ctx F S fast_Delete.loops) t0 t1 t2 h K := by kernel_rfl
theorem fast_Insert.eq (F : List (FuncId × Contract)) (S : List (FuncId × Con)) (t0 t1 t2 t3 : AV) (h : List AObj) (K : AOut → List AObj → Prop) : funW (ctx F S fast_Insert.loops) Try.f44 [t0, t1, t2, t3] h K = fast_Insert.H (ctx F S fast_Insert.loops) t0 t1 t2 t3 h K := by kernel_rfl
theorem fast_Cut.eq (F : List (FuncId × Contract)) (S : List (FuncId × Con)) (t0 t1 t2 : AV) (h : List AObj) (K : AOut → List AObj → Prop) : funW (ctx F S fast_Cut.loops) Try.f46 [t0, t1, t2] h K = fast_Cut.H (ctx F S fast_Cut.loops) t0 t1 t2 h K := by kernel_rfl
theorem fast_Swap.eq (F : List (FuncId × Contract)) (S : List (FuncId × Con)) (t0 t1 t2 t3 : AV) (h : List AObj) (K : AOut → List AObj → Prop) : funW (ctx F S fast_Swap.loops) Try.f47 [t0, t1, t2, t3] h K = fast_Swap.H (ctx F S fast_Swap.loops) t0 t1 t2 t3 h K := by kernel_rfl
theorem fast_Slots.eq (F : List (FuncId × Contract)) (S : List (FuncId × Con)) (t0 t1 : AV) (h : List AObj) (K : AOut → List AObj → Prop) : funW (ctx F S fast_Slots.loops) Try.f58 [t0, t1] h K = fast_Slots.H (ctx F S fast_Slots.loops) t0 t1 h K := by kernel_rfl
theorem fast_Place.eq (F : List (FuncId × Contract)) (S : List (FuncId × Con)) (t0 t1 : AV) (h : List AObj) (K : AOut → List AObj → Prop) : funW (ctx F S fast_Place.loops) Try.f63 [t0, t1] h K = fast_Place.H (ctx F S fast_Place.loops) t0 t1 h K := by kernel_rfl
theorem fast_may.eq (F : List (FuncId × Contract)) (S : List (FuncId × Con)) (t0 t1 : AV) (h : List AObj) (K : AOut → List AObj → Prop) : funW (ctx F S fast_may.loops) Try.f76 [t0, t1] h K = fast_may.H (ctx F S fast_may.loops) t0 t1 h K := by kernel_rfl
theorem fast_stored.eq (F : List (FuncId × Contract)) (S : List (FuncId × Con)) (t0 t1 : AV) (h : List AObj) (K : AOut → List AObj → Prop) : funW (ctx F S fast_stored.loops) Try.f77 [t0, t1] h K = fast_stored.H (ctx F S fast_stored.loops) t0 t1 h K := by kernel_rfl
theorem fast_Plain.eq (F : List (FuncId × Contract)) (S : List (FuncId × Con)) (t0 : AV) (h : List AObj) (K : AOut → List AObj → Prop) : funW (ctx F S fast_Plain.loops) Try.f84 [t0] h K = fast_Plain.H (ctx F S fast_Plain.loops) t0 h K := by kernel_rfl
theorem fast_node.eq (F : List (FuncId × Contract)) (S : List (FuncId × Con)) (t0 : AV) (h : List AObj) (K : AOut → List AObj → Prop) : funW (ctx F S fast_node.loops) Try.f88 [t0] h K = fast_node.H (ctx F S fast_node.loops) t0 h K := by kernel_rfl
theorem fast_Slots_1.eq (F : List (FuncId × Contract)) (S : List (FuncId × Con)) (t0 : AV) (h : List AObj) (K : AOut → List AObj → Prop) : funW (ctx F S fast_Slots_1.loops) Try.f90 [t0] h K = fast_Slots_1.H (ctx F S fast_Slots_1.loops) t0 h K := by kernel_rfl
theorem fast_may_1.eq (F : List (FuncId × Contract)) (S : List (FuncId × Con)) (t0 : AV) (h : List AObj) (K : AOut → List AObj → Prop) : funW (ctx F S fast_may_1.loops) Try.f106 [t0] h K = fast_may_1.H (ctx F S fast_may_1.loops) t0 h K := by kernel_rfl
theorem fast_Delete.at : Try.prog.funcs[39]? = some Try.f39 := by kernel_rfl
theorem fast_Delete.nm : (Try.f39.name == "runtime.NumGoroutine") = false := by kernel_rfl
theorem fast_Delete.bd : Try.f39.body.isNone = false := by kernel_rfl
theorem fast_Insert.at : Try.prog.funcs[44]? = some Try.f44 := by kernel_rfl
theorem fast_Insert.nm : (Try.f44.name == "runtime.NumGoroutine") = false := by kernel_rfl
theorem fast_Insert.bd : Try.f44.body.isNone = false := by kernel_rfl
theorem fast_Cut.at : Try.prog.funcs[46]? = some Try.f46 := by kernel_rfl
theorem fast_Cut.nm : (Try.f46.name == "runtime.NumGoroutine") = false := by kernel_rfl
theorem fast_Cut.bd : Try.f46.body.isNone = false := by kernel_rfl
theorem fast_Swap.at : Try.prog.funcs[47]? = some Try.f47 := by kernel_rfl
theorem fast_Swap.nm : (Try.f47.name == "runtime.NumGoroutine") = false := by kernel_rfl
theorem fast_Swap.bd : Try.f47.body.isNone = false := by kernel_rfl
theorem fast_Slots.at : Try.prog.funcs[58]? = some Try.f58 := by kernel_rfl
theorem fast_Slots.nm : (Try.f58.name == "runtime.NumGoroutine") = false := by kernel_rfl
theorem fast_Slots.bd : Try.f58.body.isNone = false := by kernel_rfl
theorem fast_Place.at : Try.prog.funcs[63]? = some Try.f63 := by kernel_rfl
theorem fast_Place.nm : (Try.f63.name == "runtime.NumGoroutine") = false := by kernel_rfl
theorem fast_Place.bd : Try.f63.body.isNone = false := by kernel_rfl
theorem fast_may.at : Try.prog.funcs[76]? = some Try.f76 := by kernel_rfl
theorem fast_may.nm : (Try.f76.name == "runtime.NumGoroutine") = false := by kernel_rfl
theorem fast_may.bd : Try.f76.body.isNone = false := by kernel_rfl
theorem fast_stored.at : Try.prog.funcs[77]? = some Try.f77 := by kernel_rfl
theorem fast_stored.nm : (Try.f77.name == "runtime.NumGoroutine") = false := by kernel_rfl
theorem fast_stored.bd : Try.f77.body.isNone = false := by kernel_rfl
theorem fast_Plain.at : Try.prog.funcs[84]? = some Try.f84 := by kernel_rfl
theorem fast_Plain.nm : (Try.f84.name == "runtime.NumGoroutine") = false := by kernel_rfl
theorem fast_Plain.bd : Try.f84.body.isNone = false := by kernel_rfl
theorem fast_node.at : Try.prog.funcs[88]? = some Try.f88 := by kernel_rfl
theorem fast_node.nm : (Try.f88.name == "runtime.NumGoroutine") = false := by kernel_rfl
theorem fast_node.bd : Try.f88.body.isNone = false := by kernel_rfl
theorem fast_Slots_1.at : Try.prog.funcs[90]? = some Try.f90 := by kernel_rfl
theorem fast_Slots_1.nm : (Try.f90.name == "runtime.NumGoroutine") = false := by kernel_rfl
theorem fast_Slots_1.bd : Try.f90.body.isNone = false := by kernel_rfl
theorem fast_may_1.at : Try.prog.funcs[106]? = some Try.f106 := by kernel_rfl
theorem fast_may_1.nm : (Try.f106.name == "runtime.NumGoroutine") = false := by kernel_rfl
theorem fast_may_1.bd : Try.f106.body.isNone = false := by kernel_rfl
end Lam
namespace Lam
open Go Go.Proofs
set_option linter.unusedVariables false
def node_Read.loops : Nat → LInfo
  | 1 => ⟨[], [], [], [(3, none), (5, some [12, 17])], [], []⟩
  | 6 => ⟨[], [], [], [(3, none), (4, some [52, 56])], [], []⟩
  | _ => ⟨[], [], [], [], [], []⟩
def node_Read.H (c : Ctx) (t0 : AV) (t1 : AV) (h : List AObj) (K : AOut → List AObj → Prop) : Prop :=
  allocW T_api_Node h fun t4 h =>
  runD (binD T_int .lss t1 (.int .i64 0)) h fun t11 h =>
  joinW (fun (J1 : AV → AV → List AObj → Prop) =>
  guardW t11 false
  (runD (lenD T_sl_int h t0) h fun t15 h =>
    runD (binD T_int .quo t15 (.int .i64 16)) h fun t16 h =>
    runD (binD T_int .geq t1 t16) h fun t17 h =>
    J1 (.bool false) t17 h)
  (J1 (.bool true) .und h))
  (fun t12 t17 h => runD (pickD t12 (.bool true) t17) h fun t18 h =>
  condW t18
  (runD (buildD T_api_Node []) h fun t19 h =>
    runH (storeH T_api_Node h t4 t19) h fun _ h =>
    loadRes (fitD T_api_Node (loadD h t4)) fun r0 => K (.ret (.tup [r0, (.int .i64 1)])) h)
  (runD (binD T_int .mul (.int .i64 16) t1) h fun t22 h =>
  runD (binD T_int .add t1 (.int .i64 1)) h fun t24 h =>
  runD (binD T_int .mul (.int .i64 16) t24) h fun t25 h =>
  runD (sliceD T_sl_int h t0 (some t22) (some t25) none) h fun t26 h =>
  runD (indexAddrD T_sl_int h t26 (.int .i64 0)) h fun t28 h =>
  runD (fitD T_int (loadD h t28)) h fun t29 h =>
  runD (binD T_int .and t29 (.int .i64 15)) h fun t30 h =>
  runD (indexAddrD T_sl_int h t26 (.int .i64 0)) h fun t32 h =>
  runD (fitD T_int (loadD h t32)) h fun t33 h =>
  runD (binD T_int .andNot t33 (.int .i64 1152921504606846976)) h fun t34 h =>
  runD (binD T_int .shr t34 (.int .u64 4)) h fun t35 h =>
  runD (indexAddrD T_sl_int h t26 (.int .i64 1)) h fun t37 h =>
  runD (fitD T_int (loadD h t37)) h fun t38 h =>
  runD (indexAddrD T_sl_int h t26 (.int .i64 2)) h fun t40 h =>
  runD (fitD T_int (loadD h t40)) h fun t41 h =>
  callW false c.noS (.fn (.func 58) [] []) [t26, (.int .i64 0)] h (fun t43 h =>
  runD (buildD T_api_Node [(0, t30), (1, t35), (2, t38), (3, t41), (4, t43)]) h fun t44 h =>
  allocW T_api_Node h fun t7 h =>
  runH (storeH T_api_Node h t7 t44) h fun _ h =>
  runD (fitD T_api_Node (loadD h t7)) h fun t46 h =>
  callW false c (.fn (.func 35) [] []) [t46] h (fun t47 h =>
  runD (extractD t47 0) h fun t48 h =>
  runD (extractD t47 1) h fun t49 h =>
  runD (binD T_api_Errno .neq t49 (.int .i64 0)) h fun t51 h =>
  joinW (fun (J2 : AV → AV → List AObj → Prop) =>
  guardW t51 false
  (callW false c (.fn (.func 59) [] []) [t48, t26] h (fun t55 h =>
    runD (unD .not t55) h fun t56 h =>
    J2 (.bool false) t56 h)
    (fun v h => K (.pan v) h))
  (J2 (.bool true) .und h))
  (fun t52 t56 h => runD (pickD t52 (.bool true) t56) h fun t57 h =>
  condW t57
  (runD (buildD T_api_Node []) h fun t58 h =>
    runH (storeH T_api_Node h t4 t58) h fun _ h =>
    loadRes (fitD T_api_Node (loadD h t4)) fun r0 => K (.ret (.tup [r0, (.int .i64 90)])) h)
  (runD (fitD T_api_Node (loadD h t7)) h fun t59 h =>
  runH (storeH T_api_Node h t4 t59) h fun _ h =>
  loadRes (fitD T_api_Node (loadD h t4)) fun r0 => K (.ret (.tup [r0, (.int .i64 0)])) h)))
  (fun v h => K (.pan v) h))
  (fun _ _ => False)))
def node_Words.loops : Nat → LInfo
  | _ => ⟨[], [], [], [], [], []⟩
def node_Words.H (c : Ctx) (t0 : AV) (h : List AObj) (K : AOut → List AObj → Prop) : Prop :=
  boxW T_api_Node t0 h fun t1 h =>
  runD (fitD T_api_Node (loadD h t1)) h fun t5 h =>
  callW false c (.fn (.func 71) [] []) [t5] h (fun t6 h =>
  runD (unD .not t6) h fun t7 h =>
  condW t7
  (K (.ret (.tup [(.sl true (.ints .i64 [])), (.int .i64 90)])) h)
  (runD (makeSliceD T_sl_int (.int .i64 16) (.int .i64 16) h.length) h fun t8 h =>
  runD (fitD T_api_Node (loadD h t1)) h fun t12 h =>
  callW false c.noS (.fn (.func 72) [] []) [t12] h (fun t13 h =>
  runD (fieldAddrD T_api_Node t1 2) h fun t14 h =>
  runD (fitD T_int (loadD h t14)) h fun t15 h =>
  runD (fieldAddrD T_api_Node t1 3) h fun t16 h =>
  runD (fitD T_int (loadD h t16)) h fun t17 h =>
  runD (indexAddrD T_sl_int h t8 (.int .i64 0)) h fun t18 h =>
  runH (storeH T_int h t18 t13) h fun _ h =>
  runD (indexAddrD T_sl_int h t8 (.int .i64 1)) h fun t19 h =>
  runH (storeH T_int h t19 t15) h fun _ h =>
  runD (indexAddrD T_sl_int h t8 (.int .i64 2)) h fun t20 h =>
  runH (storeH T_int h t20 t17) h fun _ h =>
  sepB t18 [t14] = true ∧ sepB t18 [t16] = true ∧ sepB t19 [t16] = true ∧ runD (sliceD T_sl_int h t8 (some (.int .i64 3)) none none) h fun t22 h =>
  runD (fieldAddrD T_api_Node t1 4) h fun t23 h =>
  runD (fitD T_sl_int (loadD h t23)) h fun t24 h =>
  runM (copyH T_sl_int h t22 t24) h fun t25 h =>
  K (.ret (.tup [t8, (.int .i64 0)])) h)
  (fun _ _ => False)))
  (fun v h => K (.pan v) h)
def node_Check.loops : Nat → LInfo
  | 10 => ⟨[], [], [], [(2, none), (4, some [32, 36])], [], []⟩
  | _ => ⟨[], [], [], [], [], []⟩
def node_Check.H (c : Ctx) (t0 : AV) (h : List AObj) (K : AOut → List AObj → Prop) : Prop :=
  boxW T_api_Node t0 h fun t1 h =>
  joinW (fun (J1 : AV → List AObj → Prop) =>
  joinW (fun (J2 : List AObj → Prop) =>
  joinW (fun (J3 : List AObj → Prop) =>
  runD (fieldAddrD T_api_Node t1 0) h fun t5 h =>
  runD (fitD T_int (loadD h t5)) h fun t6 h =>
  runD (binD T_int .lss t6 (.int .i64 0)) h fun t7 h =>
  joinW (fun (J4 : AV → List AObj → Prop) =>
  condW t7
  (J4 t7 h)
  (runD (fieldAddrD T_api_Node t1 0) h fun t8 h =>
    runD (fitD T_int (loadD h t8)) h fun t9 h =>
    runD (binD T_int .gtr t9 (.int .i64 9)) h fun t10 h =>
    J4 t10 h))
  (fun t4 h => condW t4
  (J3 h)
  (runD (fieldAddrD T_api_Node t1 1) h fun t12 h =>
  runD (fitD T_int (loadD h t12)) h fun t13 h =>
  runD (binD T_int .lss t13 (.int .i64 0)) h fun t14 h =>
  joinW (fun (J5 : AV → List AObj → Prop) =>
  condW t14
  (J5 t14 h)
  (runD (fieldAddrD T_api_Node t1 1) h fun t15 h =>
    runD (fitD T_int (loadD h t15)) h fun t16 h =>
    runD (binD T_int .gtr t16 (.int .i64 1099511627776)) h fun t17 h =>
    J5 t17 h))
  (fun t11 h => condW t11
  (J3 h)
  (runD (fieldAddrD T_api_Node t1 2) h fun t19 h =>
  runD (fitD T_int (loadD h t19)) h fun t20 h =>
  callW false c (.fn (.func 98) [] []) [t20] h (fun t21 h =>
  runD (unD .not t21) h fun t22 h =>
  joinW (fun (J6 : AV → List AObj → Prop) =>
  condW t22
  (J6 t22 h)
  (runD (fieldAddrD T_api_Node t1 3) h fun t23 h =>
    runD (fitD T_int (loadD h t23)) h fun t24 h =>
    callW false c (.fn (.func 98) [] []) [t24] h (fun t25 h =>
    runD (unD .not t25) h fun t26 h =>
    joinW (fun (J7 : AV → List AObj → Prop) =>
    condW t26
    (J7 t26 h)
    (runD (fieldAddrD T_api_Node t1 4) h fun t27 h =>
      runD (fitD T_sl_int (loadD h t27)) h fun t28 h =>
      runD (lenD T_sl_int h t28) h fun t29 h =>
      runD (binD T_int .gtr t29 (.int .i64 13)) h fun t30 h =>
      J7 t30 h))
    (fun t18 h => J6 t18 h))
    (fun v h => K (.pan v) h)))
  (fun t18 h => condW t18
  (J2 h)
  (J1 (.bool true) h)))
  (fun v h => K (.pan v) h))))))
  (fun h => J2 h))
  (fun h => J1 (.bool false) h))
  (fun t3 h => joinW (fun (J8 : AV → AV → List AObj → Prop) =>
  guardW t3 true
  (runD (fieldAddrD T_api_Node t1 4) h fun t33 h =>
    runD (fitD T_sl_int (loadD h t33)) h fun t34 h =>
    callW false c (.fn (.func 99) [] []) [t34, (.fn (.func 100) [] [])] h (fun t35 h =>
    runD (unD .not t35) h fun t36 h =>
    J8 (.bool true) t36 h)
    (fun v h => K (.pan v) h))
  (J8 (.bool false) .und h))
  (fun t32 t36 h => runD (pickD t32 t36 (.bool false)) h fun t37 h =>
  K (.ret t37) h))
def node_first.loops : Nat → LInfo
  | _ => ⟨[], [], [], [], [], []⟩
def node_first.H (c : Ctx) (t0 : AV) (h : List AObj) (K : AOut → List AObj → Prop) : Prop :=
  boxW T_api_Node t0 h fun t1 h =>
  runD (fieldAddrD T_api_Node t1 1) h fun t3 h =>
  runD (fitD T_int (loadD h t3)) h fun t4 h =>
  runD (binD T_int .shl t4 (.int .u64 4)) h fun t5 h =>
  runD (binD T_int .or (.int .i64 1152921504606846976) t5) h fun t6 h =>
  runD (fieldAddrD T_api_Node t1 0) h fun t7 h =>
  runD (fitD T_int (loadD h t7)) h fun t8 h =>
  runD (binD T_int .or t6 t8) h fun t9 h =>
  K (.ret t9) h
def node_block.loops : Nat → LInfo
  | 1 => ⟨[], [], [], [(3, none), (2, some [5, 7])], [], []⟩
  | _ => ⟨[], [], [], [], [], []⟩
def node_block.H (c : Ctx) (t0 : AV) (h : List AObj) (K : AOut → List AObj → Prop) : Prop :=
  runD (binD T_int .geq t0 (.int .i64 0)) h fun t4 h =>
  joinW (fun (J1 : AV → AV → List AObj → Prop) =>
  guardW t4 true
  (runD (binD T_int .lss t0 (.int .i64 256)) h fun t7 h =>
    J1 (.bool true) t7 h)
  (J1 (.bool false) .und h))
  (fun t5 t7 h => runD (pickD t5 t7 (.bool false)) h fun t8 h =>
  K (.ret t8) h)
def node_Check_1.loops : Nat → LInfo
  | 1 => ⟨[], [], [], [(3, none), (3, some [5, 8])], [], []⟩
  | _ => ⟨[], [], [], [], [], []⟩
def node_Check_1.H (c : Ctx) (t0 : AV) (h : List AObj) (K : AOut → List AObj → Prop) : Prop :=
  runD (binD T_int .eql t0 (.int .i64 0)) h fun t4 h =>
  joinW (fun (J1 : AV → AV → List AObj → Prop) =>
  guardW t4 false
  (callW false c (.fn (.func 98) [] []) [t0] h (fun t7 h =>
    runD (unD .not t7) h fun t8 h =>
    J1 (.bool false) t8 h)
    (fun v h => K (.pan v) h))
  (J1 (.bool true) .und h))
  (fun t5 t8 h => runD (pickD t5 (.bool true) t8) h fun t9 h =>
  K (.ret t9) h)
theorem node_Read.eq (F : List (FuncId × Contract)) (S : List (FuncId × Con)) (t0 t1 : AV) (h : List AObj) (K : AOut → List AObj → Prop) : funW (ctx F S node_Read.loops) Try.f23 [t0, t1] h K = node_Read.H (ctx F S node_Read.loops) t0 t1 h K := by kernel_rfl
theorem node_Words.eq (F : List (FuncId × Contract)) (S : List (FuncId × Con)) (t0 : AV) (h : List AObj) (K : AOut → List AObj → Prop) : funW (ctx F S node_Words.loops) Try.f35 [t0] h K = node_Words.H (ctx F S node_Words.loops) t0 h K := by kernel_rfl
theorem node_Check.eq (F : List (FuncId × Contract)) (S : List (FuncId × Con)) (t0 : AV) (h : List AObj) (K : AOut → List AObj → Prop) : funW (ctx F S node_Check.loops) Try.f71 [t0] h K = node_Check.H (ctx F S node_Check.loops) t0 h K := by kernel_rfl
theorem node_first.eq (F : List (FuncId × Contract)) (S : List (FuncId × Con)) (t0 : AV) (h : List AObj) (K : AOut → List AObj → Prop) : funW (ctx F S node_first.loops) Try.f72 [t0] h K = node_first.H (ctx F S node_first.loops) t0 h K := by kernel_rfl
theorem node_block.eq (F : List (FuncId × Contract)) (S : List (FuncId × Con)) (t0 : AV) (h : List AObj) (K : AOut → List AObj → Prop) : funW (ctx F S node_block.loops) Try.f98 [t0] h K = node_block.H (ctx F S node_block.loops) t0 h K := by kernel_rfl
theorem node_Check_1.eq (F : List (FuncId × Contract)) (S : List (FuncId × Con)) (t0 : AV) (h : List AObj) (K : AOut → List AObj → Prop) : funW (ctx F S node_Check_1.loops) Try.f100 [t0] h K = node_Check_1.H (ctx F S node_Check_1.loops) t0 h K := by kernel_rfl
theorem node_Read.at : Try.prog.funcs[23]? = some Try.f23 := by kernel_rfl
theorem node_Read.nm : (Try.f23.name == "runtime.NumGoroutine") = false := by kernel_rfl
theorem node_Read.bd : Try.f23.body.isNone = false := by kernel_rfl
theorem node_Words.at : Try.prog.funcs[35]? = some Try.f35 := by kernel_rfl
theorem node_Words.nm : (Try.f35.name == "runtime.NumGoroutine") = false := by kernel_rfl
theorem node_Words.bd : Try.f35.body.isNone = false := by kernel_rfl
theorem node_Check.at : Try.prog.funcs[71]? = some Try.f71 := by kernel_rfl
theorem node_Check.nm : (Try.f71.name == "runtime.NumGoroutine") = false := by kernel_rfl
theorem node_Check.bd : Try.f71.body.isNone = false := by kernel_rfl
theorem node_first.at : Try.prog.funcs[72]? = some Try.f72 := by kernel_rfl
theorem node_first.nm : (Try.f72.name == "runtime.NumGoroutine") = false := by kernel_rfl
theorem node_first.bd : Try.f72.body.isNone = false := by kernel_rfl
theorem node_block.at : Try.prog.funcs[98]? = some Try.f98 := by kernel_rfl
theorem node_block.nm : (Try.f98.name == "runtime.NumGoroutine") = false := by kernel_rfl
theorem node_block.bd : Try.f98.body.isNone = false := by kernel_rfl
theorem node_Check_1.at : Try.prog.funcs[100]? = some Try.f100 := by kernel_rfl
theorem node_Check_1.nm : (Try.f100.name == "runtime.NumGoroutine") = false := by kernel_rfl
theorem node_Check_1.bd : Try.f100.body.isNone = false := by kernel_rfl
end Lam
namespace Lam
open Go Go.Proofs
set_option linter.unusedVariables false
def pmem_New.loops : Nat → LInfo
  | _ => ⟨[], [], [], [], [], []⟩
def pmem_New.H (c : Ctx) (t0 : AV) (h : List AObj) (K : AOut → List AObj → Prop) : Prop :=
  allocW T_api_Mem h fun t2 h =>
  runD (lenD T_sl_int h t0) h fun t5 h =>
  callW false c (.fn (.func 78) [] []) [t5] h (fun t6 h =>
  runD (unD .not t6) h fun t7 h =>
  condW t7
  (runD (buildD T_api_Mem []) h fun t8 h =>
    runH (storeH T_api_Mem h t2 t8) h fun _ h =>
    loadRes (fitD T_api_Mem (loadD h t2)) fun r0 => K (.ret (.tup [r0, (.int .i64 40)])) h)
  (callW false c (.fn (.func 64) [] []) [t0] h (fun t10 h =>
  callW false c (.fn (.func 64) [] []) [t0] h (fun t12 h =>
  runD (buildD T_api_Mem [(0, t10), (1, t12)]) h fun t13 h =>
  runH (storeH T_api_Mem h t2 t13) h fun _ h =>
  loadRes (fitD T_api_Mem (loadD h t2)) fun r0 => K (.ret (.tup [r0, (.int .i64 0)])) h)
  (fun v h => K (.pan v) h))
  (fun v h => K (.pan v) h)))
  (fun v h => K (.pan v) h)
def pmem_sized.loops : Nat → LInfo
  | 1 => ⟨[], [], [], [(3, none), (3, some [5, 8])], [], []⟩
  | _ => ⟨[], [], [], [], [], []⟩
def pmem_sized.H (c : Ctx) (t0 : AV) (h : List AObj) (K : AOut → List AObj → Prop) : Prop :=
  runD (binD T_int .leq t0 (.int .i64 4096)) h fun t4 h =>
  joinW (fun (J1 : AV → AV → List AObj → Prop) =>
  guardW t4 true
  (runD (binD T_int .rem t0 (.int .i64 8)) h fun t7 h =>
    runD (binD T_int .eql t7 (.int .i64 0)) h fun t8 h =>
    J1 (.bool true) t8 h)
  (J1 (.bool false) .und h))
  (fun t5 t8 h => runD (pickD t5 t8 (.bool false)) h fun t9 h =>
  K (.ret t9) h)
def pmem_Check.loops : Nat → LInfo
  | 1 => ⟨[], [], [], [(8, none), (5, some [14, 19])], [], []⟩
  | 6 => ⟨[28], [false], [1, 3, 4, 26, 27], [], [], []⟩
  | 8 => ⟨[], [], [], [(4, none), (5, some [35, 40]), (2, none), (9, some [42, 51])], [], []⟩
  | 10 => ⟨[], [], [], [(10, none), (3, some [62, 65])], [], []⟩
  | _ => ⟨[], [], [], [], [], []⟩
def pmem_Check.L1 (c : Ctx) (J2 : AV → AV → List AObj → Prop) (K : AOut → List AObj → Prop) (lv : List AV) (h0 : List AObj) (n0 : Nat) (c1 : AV) (c3 : AV) (c4 : AV) (c26 : AV) (c27 : AV) : Prop :=
  ∃ I : Nat → List AV → List AObj → Prop, (∃ n, I n lv h0) ∧ ∀ n h, ∀ t28, I n [t28] h →
    runD (binD T_int .lss t28 c27) h fun t29 h =>
    condW t29
    (runD (indexAddrD T_sl_api_Pending h c26 t28) h fun t30 h =>
    runD (fitD T_api_Pending (loadD h t30)) h fun t31 h =>
    allocW T_api_Pending h fun t6 h =>
    runH (storeH T_api_Pending h t6 t31) h fun _ h =>
    runD (fieldAddrD T_api_Pending t6 0) h fun t32 h =>
    runD (fitD T_int (loadD h t32)) h fun t33 h =>
    runD (binD T_int .lss t33 (.int .i64 0)) h fun t34 h =>
    joinW (fun (J3 : AV → AV → List AObj → Prop) =>
    guardW t34 false
    (runD (fieldAddrD T_api_Pending t6 0) h fun t36 h =>
      runD (fitD T_int (loadD h t36)) h fun t37 h =>
      runD (lenD T_sl_int h c3) h fun t39 h =>
      runD (binD T_int .geq t37 t39) h fun t40 h =>
      J3 (.bool false) t40 h)
    (J3 (.bool true) .und h))
    (fun t35 t40 h => runD (pickD t35 (.bool true) t40) h fun t41 h =>
    joinW (fun (J4 : AV → AV → List AObj → Prop) =>
    guardW t41 false
    (runD (fieldAddrD T_api_Pending t6 2) h fun t43 h =>
      runD (fitD T_bool (loadD h t43)) h fun t44 h =>
      joinW (fun (J5 : AV → AV → List AObj → Prop) =>
      guardW t44 true
      (runD (fieldAddrD T_api_Pending t6 0) h fun t47 h =>
        runD (fitD T_int (loadD h t47)) h fun t48 h =>
        runD (binD T_int .quo t48 (.int .i64 8)) h fun t49 h =>
        runD (lookupD T_map_int_bool h c4 t49) h fun t50 h =>
        J5 (.bool true) t50 h)
      (J5 (.bool false) .und h))
      (fun t45 t50 h => runD (pickD t45 t50 (.bool false)) h fun t51 h =>
      J4 (.bool false) t51 h))
    (J4 (.bool true) .und h))
    (fun t42 t51 h => runD (pickD t42 (.bool true) t51) h fun t52 h =>
    condW t52
    (K (.ret (.bool false)) h)
    (runD (fieldAddrD T_api_Pending t6 0) h fun t54 h =>
    runD (fitD T_int (loadD h t54)) h fun t55 h =>
    runD (binD T_int .quo t55 (.int .i64 8)) h fun t56 h =>
    runD (fieldAddrD T_api_Pending t6 0) h fun t58 h =>
    runD (fitD T_int (loadD h t58)) h fun t59 h =>
    runD (binD T_int .quo t59 (.int .i64 8)) h fun t60 h =>
    runD (lookupD T_map_int_bool h c4 t60) h fun t61 h =>
    joinW (fun (J6 : AV → AV → List AObj → Prop) =>
    guardW t61 false
    (runD (fieldAddrD T_api_Pending t6 2) h fun t63 h =>
      runD (fitD T_bool (loadD h t63)) h fun t64 h =>
      runD (unD .not t64) h fun t65 h =>
      J6 (.bool false) t65 h)
    (J6 (.bool true) .und h))
    (fun t62 t65 h => runD (pickD t62 (.bool true) t65) h fun t66 h =>
    runH (mapSetH T_map_int_bool h c4 t56 t66) h fun _ h =>
    runD (fieldAddrD T_api_Pending t6 0) h fun t68 h =>
    runD (fitD T_int (loadD h t68)) h fun t69 h =>
    runD (fieldAddrD T_api_Pending t6 1) h fun t70 h =>
    runD (fitD T_int (loadD h t70)) h fun t71 h =>
    runD (indexAddrD T_sl_int h c3 t69) h fun t72 h =>
    runH (storeH T_int h t72 t71) h fun _ h =>
    runD (binD T_int .add t28 (.int .i64 1)) h fun t73 h =>
    (∃ m, m < n ∧ I m (AV.norms n0 h [t73]) (normH n0 h)) ∧ AV.norms n0 h [c1, c3, c4, c26, c27] = [c1, c3, c4, c26, c27])))))
    (J2 c1 c3 h)
def pmem_Check.H (c : Ctx) (t0 : AV) (h : List AObj) (K : AOut → List AObj → Prop) : Prop :=
  boxW T_api_Mem t0 h fun t1 h =>
  runD (fieldAddrD T_api_Mem t1 0) h fun t7 h =>
  runD (fitD T_sl_int (loadD h t7)) h fun t8 h =>
  runD (lenD T_sl_int h t8) h fun t9 h =>
  runD (fieldAddrD T_api_Mem t1 1) h fun t10 h =>
  runD (fitD T_sl_int (loadD h t10)) h fun t11 h =>
  runD (lenD T_sl_int h t11) h fun t12 h =>
  runD (binD T_int .neq t9 t12) h fun t13 h =>
  joinW (fun (J1 : AV → AV → List AObj → Prop) =>
  guardW t13 false
  (runD (fieldAddrD T_api_Mem t1 0) h fun t15 h =>
    runD (fitD T_sl_int (loadD h t15)) h fun t16 h =>
    runD (lenD T_sl_int h t16) h fun t17 h =>
    callW false c (.fn (.func 78) [] []) [t17] h (fun t18 h =>
    runD (unD .not t18) h fun t19 h =>
    J1 (.bool false) t19 h)
    (fun v h => K (.pan v) h))
  (J1 (.bool true) .und h))
  (fun t14 t19 h => runD (pickD t14 (.bool true) t19) h fun t20 h =>
  condW t20
  (K (.ret (.bool false)) h)
  (runD (fieldAddrD T_api_Mem t1 1) h fun t21 h =>
  runD (fitD T_sl_int (loadD h t21)) h fun t22 h =>
  callW false c (.fn (.func 64) [] []) [t22] h (fun t23 h =>
  runD (makeMapD T_map_int_bool h.length) h fun t24 h =>
  runD (fieldAddrD T_api_Mem t1 2) h fun t25 h =>
  runD (fitD T_sl_api_Pending (loadD h t25)) h fun t26 h =>
  runD (lenD T_sl_api_Pending h t26) h fun t27 h =>
  joinW (fun (J2 : AV → AV → List AObj → Prop) =>
  promV [false] [(.int .i64 0)] h fun lv h => pmem_Check.L1 c J2 K (AV.norms h.length h lv) (normH h.length h) h.length (AV.norm h.length h t1) (AV.norm h.length h t23) (AV.norm h.length h t24) (AV.norm h.length h t26) (AV.norm h.length h t27))
  (fun t1 t3 h => runD (fieldAddrD T_api_Mem t1 0) h fun t75 h =>
  runD (fitD T_sl_int (loadD h t75)) h fun t76 h =>
  callW false c (.fn (.func 59) [] []) [t3, t76] h (fun t77 h =>
  K (.ret t77) h)
  (fun v h => K (.pan v) h)))
  (fun v h => K (.pan v) h)))
def pmem_Put.loops : Nat → LInfo
  | _ => ⟨[], [], [], [], [], []⟩
def pmem_Put.H (c : Ctx) (t0 : AV) (t1 : AV) (t2 : AV) (h : List AObj) (K : AOut → List AObj → Prop) : Prop :=
  boxW T_api_Mem t0 h fun t3 h =>
  allocW T_api_Mem h fun t6 h =>
  runD (fitD T_api_Mem (loadD h t3)) h fun t9 h =>
  callW false c (.fn (.func 159) [] []) [t9, t1] h (fun t11 h =>
  runD (unD .not t11) h fun t12 h =>
  condW t12
  (runD (fitD T_api_Mem (loadD h t3)) h fun t13 h =>
    runH (storeH T_api_Mem h t6 t13) h fun _ h =>
    loadRes (fitD T_api_Mem (loadD h t6)) fun r0 => K (.ret (.tup [r0, (.int .i64 40)])) h)
  (runD (fieldAddrD T_api_Mem t3 0) h fun t14 h =>
  runD (fitD T_sl_int (loadD h t14)) h fun t15 h =>
  runD (lenD T_sl_int h t15) h fun t16 h =>
  runD (makeSliceD T_sl_int t16 t16 h.length) h fun t17 h =>
  runD (fieldAddrD T_api_Mem t3 0) h fun t19 h =>
  runD (fitD T_sl_int (loadD h t19)) h fun t20 h =>
  runM (copyH T_sl_int h t17 t20) h fun t21 h =>
  runD (indexAddrD T_sl_int h t17 t1) h fun t25 h =>
  runH (storeH T_int h t25 t2) h fun _ h =>
  runD (fieldAddrD T_api_Mem t3 1) h fun t27 h =>
  runD (fitD T_sl_int (loadD h t27)) h fun t28 h =>
  runD (fieldAddrD T_api_Mem t3 2) h fun t29 h =>
  runD (fitD T_sl_api_Pending (loadD h t29)) h fun t30 h =>
  callW false c.noS (.fn (.func 160) [] []) [t30] h (fun t31 h =>
  runD (buildD T_api_Pending [(0, t1), (1, t2)]) h fun t34 h =>
  runD (buildSliceD T_sl_api_Pending 1 [(0, t34)] h.length) h fun t35 h =>
  runDM (appendD T_sl_api_Pending h t31 t35 h.length) (appendH T_sl_api_Pending h t31 t35) h fun t36 h =>
  runD (buildD T_api_Mem [(0, t17), (1, t28), (2, t36)]) h fun t37 h =>
  runH (storeH T_api_Mem h t6 t37) h fun _ h =>
  sepB t31 [t27] = true ∧ loadRes (fitD T_api_Mem (loadD h t6)) fun r0 => K (.ret (.tup [r0, (.int .i64 0)])) h)
  (fun _ _ => False)))
  (fun v h => K (.pan v) h)
def pmem_Flush.loops : Nat → LInfo
  | _ => ⟨[], [], [], [], [], []⟩
def pmem_Flush.H (c : Ctx) (t0 : AV) (t1 : AV) (h : List AObj) (K : AOut → List AObj → Prop) : Prop :=
  boxW T_api_Mem t0 h fun t2 h =>
  allocW T_api_Mem h fun t4 h =>
  runD (fitD T_api_Mem (loadD h t2)) h fun t8 h =>
  runD (fitD T_api_Mem (loadD h t2)) h fun t9 h =>
  callW false c.noS (.fn (.func 161) [] []) [t9, t1] h (fun t11 h =>
  callW false c.noS (.fn (.func 159) [] []) [t8, t11] h (fun t12 h =>
  runD (unD .not t12) h fun t13 h =>
  condW t13
  (runD (fitD T_api_Mem (loadD h t2)) h fun t14 h =>
    runH (storeH T_api_Mem h t4 t14) h fun _ h =>
    loadRes (fitD T_api_Mem (loadD h t4)) fun r0 => K (.ret (.tup [r0, (.int .i64 40)])) h)
  (runD (fieldAddrD T_api_Mem t2 2) h fun t15 h =>
  runD (fitD T_sl_api_Pending (loadD h t15)) h fun t16 h =>
  callW false c (.fn (.func 162) [] []) [t16] h (fun t17 h =>
  allocW T_sl_api_Pending h fun t6 h =>
  runH (storeH T_sl_api_Pending h t6 t17) h fun _ h =>
  runD (fitD T_api_Mem (loadD h t2)) h fun t18 h =>
  callW false c (.fn (.func 163) [] []) [t18, t1] h (fun t20 h =>
  joinW (fun (J1 : AV → AV → AV → List AObj → Prop) =>
  rangeX c.iterS t20 h
  (fun id r args h K => lpIs h id .ready r ∧ argX1 args fun t21 =>
  lpIs h id .ready r ∧
  runD (fitD T_sl_api_Pending (loadD (List.set h id (.lp .busy none r)) t6)) (List.set h id (.lp .busy none r)) fun t22 h =>
  runD (indexAddrD T_sl_api_Pending h t22 t21) h fun t24 h =>
  runD (fieldAddrD T_api_Pending t24 2) h fun t25 h =>
  runH (storeH T_bool h t25 (.bool true)) h fun _ h =>
  lpIs h id .busy r ∧ K (.ret (.bool true)) (List.set h id (.lp .ready none r)))
  (fun id r ao h => endX id r ao h
  (fun h => J1 t2 t4 t6 h)
  (fun h => loadRes (fitD T_api_Mem (loadD h t4)) fun r0 => K (.ret (.tup [r0, (.int .i64 0)])) h)
  (fun i h => exitW i 0 (J1 t2 t4 t6 h) (False))
  (fun l h => False)
  (fun v h => K (.pan v) h)))
  (fun t2 t4 t6 h => runD (fitD T_sl_api_Pending (loadD h t6)) h fun t26 h =>
  runD (fieldAddrD T_api_Mem t2 2) h fun t27 h =>
  runH (storeH T_sl_api_Pending h t27 t26) h fun _ h =>
  runD (fitD T_api_Mem (loadD h t2)) h fun t28 h =>
  runH (storeH T_api_Mem h t4 t28) h fun _ h =>
  loadRes (fitD T_api_Mem (loadD h t4)) fun r0 => K (.ret (.tup [r0, (.int .i64 0)])) h))
  (fun v h => K (.pan v) h))
  (fun v h => K (.pan v) h)))
  (fun _ _ => False))
  (fun _ _ => False)
def pmem_Fence.loops : Nat → LInfo
  | _ => ⟨[], [], [], [], [], []⟩
def pmem_Fence.H (c : Ctx) (t0 : AV) (h : List AObj) (K : AOut → List AObj → Prop) : Prop :=
  boxW T_api_Mem t0 h fun t1 h =>
  allocW T_api_Mem h fun t2 h =>
  runD (fitD T_api_Mem (loadD h t1)) h fun t4 h =>
  callW false c (.fn (.func 147) [] []) [t4] h (fun t5 h =>
  runD (unD .not t5) h fun t6 h =>
  condW t6
  (runD (fitD T_api_Mem (loadD h t1)) h fun t7 h =>
    runH (storeH T_api_Mem h t2 t7) h fun _ h =>
    loadRes (fitD T_api_Mem (loadD h t2)) fun r0 => K (.ret (.tup [r0, (.int .i64 40)])) h)
  (runD (fitD T_api_Mem (loadD h t1)) h fun t8 h =>
  callW false c (.fn (.func 164) [] []) [t8, (.fn (.func 165) [] [])] h (fun t9 h =>
  runH (storeH T_api_Mem h t2 t9) h fun _ h =>
  loadRes (fitD T_api_Mem (loadD h t2)) fun r0 => K (.ret (.tup [r0, (.int .i64 0)])) h)
  (fun v h => K (.pan v) h)))
  (fun v h => K (.pan v) h)
def pmem_place.loops : Nat → LInfo
  | 1 => ⟨[], [], [], [(3, none), (5, some [7, 12]), (2, none), (2, some [14, 16])], [], []⟩
  | _ => ⟨[], [], [], [], [], []⟩
def pmem_place.H (c : Ctx) (t0 : AV) (t1 : AV) (h : List AObj) (K : AOut → List AObj → Prop) : Prop :=
  boxW T_api_Mem t0 h fun t2 h =>
  runD (binD T_int .geq t1 (.int .i64 0)) h fun t6 h =>
  joinW (fun (J1 : AV → AV → List AObj → Prop) =>
  guardW t6 true
  (runD (fieldAddrD T_api_Mem t2 0) h fun t9 h =>
    runD (fitD T_sl_int (loadD h t9)) h fun t10 h =>
    runD (lenD T_sl_int h t10) h fun t11 h =>
    runD (binD T_int .lss t1 t11) h fun t12 h =>
    J1 (.bool true) t12 h)
  (J1 (.bool false) .und h))
  (fun t7 t12 h => runD (pickD t7 t12 (.bool false)) h fun t13 h =>
  joinW (fun (J2 : AV → AV → List AObj → Prop) =>
  guardW t13 true
  (runD (fitD T_api_Mem (loadD h t2)) h fun t15 h =>
    callW false c (.fn (.func 147) [] []) [t15] h (fun t16 h =>
    J2 (.bool true) t16 h)
    (fun v h => K (.pan v) h))
  (J2 (.bool false) .und h))
  (fun t14 t16 h => runD (pickD t14 t16 (.bool false)) h fun t17 h =>
  K (.ret t17) h))
def pmem_first.loops : Nat → LInfo
  | 1 => ⟨[], [], [], [(3, none), (6, some [7, 13])], [], []⟩
  | _ => ⟨[], [], [], [], [], []⟩
def pmem_first.H (c : Ctx) (t0 : AV) (t1 : AV) (h : List AObj) (K : AOut → List AObj → Prop) : Prop :=
  boxW T_api_Mem t0 h fun t2 h =>
  runD (binD T_int .lss t1 (.int .i64 0)) h fun t6 h =>
  joinW (fun (J1 : AV → AV → List AObj → Prop) =>
  guardW t6 false
  (runD (fieldAddrD T_api_Mem t2 0) h fun t9 h =>
    runD (fitD T_sl_int (loadD h t9)) h fun t10 h =>
    runD (lenD T_sl_int h t10) h fun t11 h =>
    runD (binD T_int .quo t11 (.int .i64 8)) h fun t12 h =>
    runD (binD T_int .geq t1 t12) h fun t13 h =>
    J1 (.bool false) t13 h)
  (J1 (.bool true) .und h))
  (fun t7 t13 h => runD (pickD t7 (.bool true) t13) h fun t14 h =>
  condW t14
  (K (.ret (.int .i64 (-1))) h)
  (runD (binD T_int .mul t1 (.int .i64 8)) h fun t16 h =>
  K (.ret t16) h))
def pmem_of.loops : Nat → LInfo
  | _ => ⟨[], [], [], [], [], []⟩
def pmem_of.H (c : Ctx) (t0 : AV) (t1 : AV) (h : List AObj) (K : AOut → List AObj → Prop) : Prop :=
  boxW T_api_Mem t0 h fun t2 h =>
  boxW T_int t1 h fun t3 h =>
  K (.ret (.fn (.func 166) [] [t2, t3])) h
def pmem_keep.loops : Nat → LInfo
  | 3 => ⟨[17], [false], [1, 4, 5, 15, 16], [], [5], []⟩
  | _ => ⟨[], [], [], [], [], []⟩
def pmem_keep.L1 (c : Ctx) (J1 : AV → AV → List AObj → Prop) (K : AOut → List AObj → Prop) (lv : List AV) (h0 : List AObj) (n0 : Nat) (c1 : AV) (c4 : AV) (c5 : AV) (c15 : AV) (c16 : AV) : Prop :=
  ∃ I : Nat → List AV → List AObj → Prop, (∃ n, I n lv h0) ∧ ∀ n h, ∀ t17, I n [t17] h →
    runD (binD T_int .lss t17 c16) h fun t18 h =>
    condW t18
    (joinW (fun (J2 : List AObj → Prop) =>
    runD (indexAddrD T_sl_api_Pending h c15 t17) h fun t19 h =>
    runD (fitD T_api_Pending (loadD h t19)) h fun t20 h =>
    allocW T_api_Pending h fun t7 h =>
    runH (storeH T_api_Pending h t7 t20) h fun _ h =>
    runD (fitD T_api_Pending (loadD h t7)) h fun t22 h =>
    callW false c c1 [t22] h (fun t23 h =>
    condW t23
    (runD (fieldAddrD T_api_Mem c5 1) h fun t24 h =>
      runD (fitD T_sl_int (loadD h t24)) h fun t25 h =>
      runD (fieldAddrD T_api_Pending t7 0) h fun t26 h =>
      runD (fitD T_int (loadD h t26)) h fun t27 h =>
      runD (fieldAddrD T_api_Pending t7 1) h fun t28 h =>
      runD (fitD T_int (loadD h t28)) h fun t29 h =>
      runD (indexAddrD T_sl_int h t25 t27) h fun t30 h =>
      runH (storeH T_int h t30 t29) h fun _ h =>
      J2 h)
    (runD (fieldAddrD T_api_Mem c5 2) h fun t31 h =>
    runD (fitD T_sl_api_Pending (loadD h t31)) h fun t32 h =>
    runD (fitD T_api_Pending (loadD h t7)) h fun t33 h =>
    runD (buildSliceD T_sl_api_Pending 1 [(0, t33)] h.length) h fun t34 h =>
    runDM (appendD T_sl_api_Pending h t32 t34 h.length) (appendH T_sl_api_Pending h t32 t34) h fun t35 h =>
    runD (fieldAddrD T_api_Mem c5 2) h fun t36 h =>
    runH (storeH T_sl_api_Pending h t36 t35) h fun _ h =>
    J2 h))
    (fun v h => K (.pan v) h))
    (fun h => runD (binD T_int .add t17 (.int .i64 1)) h fun t37 h =>
    (∃ m, m < n ∧ I m (AV.norms n0 h [t37]) (normH n0 h)) ∧ AV.norms n0 h [c1, c4, c5, c15, c16] = [c1, c4, c5, c15, c16]))
    (J1 c4 c5 h)
def pmem_keep.H (c : Ctx) (t0 : AV) (t1 : AV) (h : List AObj) (K : AOut → List AObj → Prop) : Prop :=
  boxW T_api_Mem t0 h fun t2 h =>
  allocW T_api_Mem h fun t4 h =>
  runD (fieldAddrD T_api_Mem t2 0) h fun t8 h =>
  runD (fitD T_sl_int (loadD h t8)) h fun t9 h =>
  runD (fieldAddrD T_api_Mem t2 1) h fun t10 h =>
  runD (fitD T_sl_int (loadD h t10)) h fun t11 h =>
  callW false c.noS (.fn (.func 64) [] []) [t11] h (fun t12 h =>
  runD (buildD T_api_Mem [(0, t9), (1, t12)]) h fun t13 h =>
  allocW T_api_Mem h fun t5 h =>
  runH (storeH T_api_Mem h t5 t13) h fun _ h =>
  runD (fieldAddrD T_api_Mem t2 2) h fun t14 h =>
  runD (fitD T_sl_api_Pending (loadD h t14)) h fun t15 h =>
  runD (lenD T_sl_api_Pending h t15) h fun t16 h =>
  joinW (fun (J1 : AV → AV → List AObj → Prop) =>
  promV [false] [(.int .i64 0)] (boxH [t5] h) fun lv h => pmem_keep.L1 c J1 K (AV.norms h.length h lv) (normH h.length h) h.length (AV.norm h.length h t1) (AV.norm h.length h t4) (AV.norm h.length h t5) (AV.norm h.length h t15) (AV.norm h.length h t16))
  (fun t4 t5 h => runD (fitD T_api_Mem (loadD h t5)) h fun t38 h =>
  runH (storeH T_api_Mem h t4 t38) h fun _ h =>
  loadRes (fitD T_api_Mem (loadD h t4)) fun r0 => K (.ret r0) h))
  (fun _ _ => False)
def pmem_Fence_1.loops : Nat → LInfo
  | _ => ⟨[], [], [], [], [], []⟩
def pmem_Fence_1.H (c : Ctx) (t0 : AV) (h : List AObj) (K : AOut → List AObj → Prop) : Prop :=
  boxW T_api_Pending t0 h fun t1 h =>
  runD (fieldAddrD T_api_Pending t1 2) h fun t3 h =>
  runD (fitD T_bool (loadD h t3)) h fun t4 h =>
  K (.ret t4) h
def pmem_of_1.loops : Nat → LInfo
  | 1 => ⟨[9], [false], [0, 2, 7, 8], [], [], []⟩
  | 3 => ⟨[], [], [], [(6, none), (4, some [19, 23])], [], []⟩
  | _ => ⟨[], [], [], [], [], []⟩
def pmem_of_1.L1 (c : Ctx) (J1 : List AObj → Prop) (K : AOut → List AObj → Prop) (lv : List AV) (h0 : List AObj) (n0 : Nat) (c0 : AV) (c2 : AV) (c7 : AV) (c8 : AV) : Prop :=
  ∃ I : Nat → List AV → List AObj → Prop, (∃ n, I n lv h0) ∧ ∀ n h, ∀ t9, I n [t9] h →
    runD (binD T_int .lss t9 c8) h fun t10 h =>
    condW t10
    (runD (indexAddrD T_sl_api_Pending h c7 t9) h fun t12 h =>
    runD (fitD T_api_Pending (loadD h t12)) h fun t13 h =>
    allocW T_api_Pending h fun t5 h =>
    runH (storeH T_api_Pending h t5 t13) h fun _ h =>
    runD (fieldAddrD T_api_Pending t5 0) h fun t14 h =>
    runD (fitD T_int (loadD h t14)) h fun t15 h =>
    runD (binD T_int .quo t15 (.int .i64 8)) h fun t16 h =>
    runD (fitD T_int (loadD h c2)) h fun t17 h =>
    runD (binD T_int .eql t16 t17) h fun t18 h =>
    joinW (fun (J2 : AV → AV → List AObj → Prop) =>
    guardW t18 true
    (callW false c c0 [t9] h (fun t22 h =>
      runD (unD .not t22) h fun t23 h =>
      J2 (.bool true) t23 h)
      (fun v h => K (.pan v) h))
    (J2 (.bool false) .und h))
    (fun t19 t23 h => runD (pickD t19 t23 (.bool false)) h fun t24 h =>
    condW t24
    (K (.ret (.tup [])) h)
    (runD (binD T_int .add t9 (.int .i64 1)) h fun t25 h =>
    (∃ m, m < n ∧ I m (AV.norms n0 h [t25]) (normH n0 h)) ∧ AV.norms n0 h [c0, c2, c7, c8] = [c0, c2, c7, c8])))
    (J1 h)
def pmem_of_1.H (c : Ctx) (t0 : AV) (t1 : AV) (t2 : AV) (h : List AObj) (K : AOut → List AObj → Prop) : Prop :=
  runD (fieldAddrD T_api_Mem t1 2) h fun t6 h =>
  runD (fitD T_sl_api_Pending (loadD h t6)) h fun t7 h =>
  runD (lenD T_sl_api_Pending h t7) h fun t8 h =>
  joinW (fun (J1 : List AObj → Prop) =>
  promV [false] [(.int .i64 0)] h fun lv h => pmem_of_1.L1 c J1 K (AV.norms h.length h lv) (normH h.length h) h.length (AV.norm h.length h t0) (AV.norm h.length h t2) (AV.norm h.length h t7) (AV.norm h.length h t8))
  (fun h => K (.ret (.tup [])) h)
theorem pmem_New.eq (F : List (FuncId × Contract)) (S : List (FuncId × Con)) (t0 : AV) (h : List AObj) (K : AOut → List AObj → Prop) : funW (ctx F S pmem_New.loops) Try.f40 [t0] h K = pmem_New.H (ctx F S pmem_New.loops) t0 h K := by kernel_rfl
theorem pmem_sized.eq (F : List (FuncId × Contract)) (S : List (FuncId × Con)) (t0 : AV) (h : List AObj) (K : AOut → List AObj → Prop) : funW (ctx F S pmem_sized.loops) Try.f78 [t0] h K = pmem_sized.H (ctx F S pmem_sized.loops) t0 h K := by kernel_rfl
theorem pmem_Check.eq (F : List (FuncId × Contract)) (S : List (FuncId × Con)) (t0 : AV) (h : List AObj) (K : AOut → List AObj → Prop) : funW (ctx F S pmem_Check.loops) Try.f147 [t0] h K = pmem_Check.H (ctx F S pmem_Check.loops) t0 h K := by kernel_rfl
theorem pmem_Put.eq (F : List (FuncId × Contract)) (S : List (FuncId × Con)) (t0 t1 t2 : AV) (h : List AObj) (K : AOut → List AObj → Prop) : funW (ctx F S pmem_Put.loops) Try.f156 [t0, t1, t2] h K = pmem_Put.H (ctx F S pmem_Put.loops) t0 t1 t2 h K := by kernel_rfl
theorem pmem_Flush.eq (F : List (FuncId × Contract)) (S : List (FuncId × Con)) (Is : List (FuncId × (Con → Con))) (t0 t1 : AV) (h : List AObj) (K : AOut → List AObj → Prop) : funW (ctxI F S Is pmem_Flush.loops) Try.f157 [t0, t1] h K = pmem_Flush.H (ctxI F S Is pmem_Flush.loops) t0 t1 h K := by kernel_rfl
theorem pmem_Fence.eq (F : List (FuncId × Contract)) (S : List (FuncId × Con)) (t0 : AV) (h : List AObj) (K : AOut → List AObj → Prop) : funW (ctx F S pmem_Fence.loops) Try.f158 [t0] h K = pmem_Fence.H (ctx F S pmem_Fence.loops) t0 h K := by kernel_rfl
theorem pmem_place.eq (F : List (FuncId × Contract)) (S : List (FuncId × Con)) (t0 t1 : AV) (h : List AObj) (K : AOut → List AObj → Prop) : funW (ctx F S pmem_place.loops) Try.f159 [t0, t1] h K = pmem_place.H (ctx F S pmem_place.loops) t0 t1 h K := by kernel_rfl
theorem pmem_first.eq (F : List (FuncId × Contract)) (S : List (FuncId × Con)) (t0 t1 : AV) (h : List AObj) (K : AOut → List AObj → Prop) : funW (ctx F S pmem_first.loops) Try.f161 [t0, t1] h K = pmem_first.H (ctx F S pmem_first.loops) t0 t1 h K := by kernel_rfl
theorem pmem_of.eq (F : List (FuncId × Contract)) (S : List (FuncId × Con)) (t0 t1 : AV) (h : List AObj) (K : AOut → List AObj → Prop) : funW (ctx F S pmem_of.loops) Try.f163 [t0, t1] h K = pmem_of.H (ctx F S pmem_of.loops) t0 t1 h K := by kernel_rfl
theorem pmem_keep.eq (F : List (FuncId × Contract)) (S : List (FuncId × Con)) (t0 t1 : AV) (h : List AObj) (K : AOut → List AObj → Prop) : funW (ctx F S pmem_keep.loops) Try.f164 [t0, t1] h K = pmem_keep.H (ctx F S pmem_keep.loops) t0 t1 h K := by kernel_rfl
theorem pmem_Fence_1.eq (F : List (FuncId × Contract)) (S : List (FuncId × Con)) (t0 : AV) (h : List AObj) (K : AOut → List AObj → Prop) : funW (ctx F S pmem_Fence_1.loops) Try.f165 [t0] h K = pmem_Fence_1.H (ctx F S pmem_Fence_1.loops) t0 h K := by kernel_rfl
theorem pmem_of_1.eq (F : List (FuncId × Contract)) (S : List (FuncId × Con)) (l : Nat) (Y : Con) (t0 t1 t2 : AV) (h : List AObj) (K : AOut → List AObj → Prop) : funW ((ctx F S pmem_of_1.loops).withY l Y) Try.f166 [t0, t1, t2] h K = pmem_of_1.H ((ctx F S pmem_of_1.loops).withY l Y) t0 t1 t2 h K := by kernel_rfl
theorem pmem_New.at : Try.prog.funcs[40]? = some Try.f40 := by kernel_rfl
theorem pmem_New.nm : (Try.f40.name == "runtime.NumGoroutine") = false := by kernel_rfl
theorem pmem_New.bd : Try.f40.body.isNone = false := by kernel_rfl
theorem pmem_sized.at : Try.prog.funcs[78]? = some Try.f78 := by kernel_rfl
theorem pmem_sized.nm : (Try.f78.name == "runtime.NumGoroutine") = false := by kernel_rfl
theorem pmem_sized.bd : Try.f78.body.isNone = false := by kernel_rfl
theorem pmem_Check.at : Try.prog.funcs[147]? = some Try.f147 := by kernel_rfl
theorem pmem_Check.nm : (Try.f147.name == "runtime.NumGoroutine") = false := by kernel_rfl
theorem pmem_Check.bd : Try.f147.body.isNone = false := by kernel_rfl
theorem pmem_Put.at : Try.prog.funcs[156]? = some Try.f156 := by kernel_rfl
theorem pmem_Put.nm : (Try.f156.name == "runtime.NumGoroutine") = false := by kernel_rfl
theorem pmem_Put.bd : Try.f156.body.isNone = false := by kernel_rfl
theorem pmem_Flush.at : Try.prog.funcs[157]? = some Try.f157 := by kernel_rfl
theorem pmem_Flush.nm : (Try.f157.name == "runtime.NumGoroutine") = false := by kernel_rfl
theorem pmem_Flush.bd : Try.f157.body.isNone = false := by kernel_rfl
theorem pmem_Fence.at : Try.prog.funcs[158]? = some Try.f158 := by kernel_rfl
theorem pmem_Fence.nm : (Try.f158.name == "runtime.NumGoroutine") = false := by kernel_rfl
theorem pmem_Fence.bd : Try.f158.body.isNone = false := by kernel_rfl
theorem pmem_place.at : Try.prog.funcs[159]? = some Try.f159 := by kernel_rfl
theorem pmem_place.nm : (Try.f159.name == "runtime.NumGoroutine") = false := by kernel_rfl
theorem pmem_place.bd : Try.f159.body.isNone = false := by kernel_rfl
theorem pmem_first.at : Try.prog.funcs[161]? = some Try.f161 := by kernel_rfl
theorem pmem_first.nm : (Try.f161.name == "runtime.NumGoroutine") = false := by kernel_rfl
theorem pmem_first.bd : Try.f161.body.isNone = false := by kernel_rfl
theorem pmem_of.at : Try.prog.funcs[163]? = some Try.f163 := by kernel_rfl
theorem pmem_of.nm : (Try.f163.name == "runtime.NumGoroutine") = false := by kernel_rfl
theorem pmem_of.bd : Try.f163.body.isNone = false := by kernel_rfl
theorem pmem_keep.at : Try.prog.funcs[164]? = some Try.f164 := by kernel_rfl
theorem pmem_keep.nm : (Try.f164.name == "runtime.NumGoroutine") = false := by kernel_rfl
theorem pmem_keep.bd : Try.f164.body.isNone = false := by kernel_rfl
theorem pmem_Fence_1.at : Try.prog.funcs[165]? = some Try.f165 := by kernel_rfl
theorem pmem_Fence_1.nm : (Try.f165.name == "runtime.NumGoroutine") = false := by kernel_rfl
theorem pmem_Fence_1.bd : Try.f165.body.isNone = false := by kernel_rfl
theorem pmem_of_1.at : Try.prog.funcs[166]? = some Try.f166 := by kernel_rfl
theorem pmem_of_1.nm : (Try.f166.name == "runtime.NumGoroutine") = false := by kernel_rfl
theorem pmem_of_1.bd : Try.f166.body.isNone = false := by kernel_rfl
end Lam
namespace Lam
open Go Go.Proofs
set_option linter.unusedVariables false
set_option linter.unnecessarySimpa false
set_option linter.unusedSimpArgs false
def pmem_sized.C : Contract
  | [.int .i64 n] => some (false, pD True (.bool (szB n)))
  | _ => none
set_option maxRecDepth 20000 in
theorem pmem_sized.spec : FSpec Try.prog 78 pmem_sized.C := by
  refine FSpec.of (ctx_ok (F := []) (S := []) (by simp) (by simp) pmem_sized.loops) pmem_sized.at pmem_sized.nm pmem_sized.bd ?_
  intro vs b S v news e hS
  unfold pmem_sized.C at e
  split at e
  rotate_left
  · cases e
  cases e
  rw [pmem_sized.eq]
  unfold pmem_sized.H
  simp (maxSteps := 4000000) only [go_sem, Nat.reduceEqDiff, Nat.reduceLT, Nat.reduceAdd, Nat.reduceSub, Nat.reduceLeDiff, List.reduceReplicate, Int.reduceToNat]
  exact ⟨fun _ => by decide, post_val rfl rfl⟩

def slices_Clone_sl_int_int.C : Contract
  | [.sl _ (.ints .i64 l)] => some (true, some (roomy l.length, .sref false 0 0 0 l.length, [.row .own 0 (.ints .i64 l)]))
  | _ => none
set_option maxRecDepth 20000 in
theorem slices_Clone_sl_int_int.spec : FSpec Try.prog 64 slices_Clone_sl_int_int.C := by
  refine FSpec.of (ctx_ok (F := []) (S := []) (by simp) (by simp) slices_Clone_sl_int_int.loops) slices_Clone_sl_int_int.at slices_Clone_sl_int_int.nm slices_Clone_sl_int_int.bd ?_
  intro vs b S v news e hS
  unfold slices_Clone_sl_int_int.C at e
  split at e
  rotate_left
  · cases e
  cases e
  rw [slices_Clone_sl_int_int.eq]
  unfold slices_Clone_sl_int_int.H
  simp (maxSteps := 4000000) only [go_sem, Nat.reduceEqDiff, Nat.reduceLT, Nat.reduceAdd, Nat.reduceSub, Nat.reduceLeDiff, List.reduceReplicate, Int.reduceToNat]
  rename_i l
  intro b hb
  refine ⟨fun h => ?_, fun h => ⟨hS, post_row rfl (by simp)⟩⟩
  have : l = [] := List.eq_nil_of_length_eq_zero (hb h)
  subst this
  exact post_nil rfl
def slices_Clone_sl_api_Pending_api_Pending.C : Contract
  | [.sl _ (.pends l)] => some (true, some (roomy l.length, .sref false 0 0 0 l.length, [.row .own 0 (.pends l)]))
  | _ => none
set_option maxRecDepth 20000 in
theorem slices_Clone_sl_api_Pending_api_Pending.spec : FSpec Try.prog 162 slices_Clone_sl_api_Pending_api_Pending.C := by
  refine FSpec.of (ctx_ok (F := []) (S := []) (by simp) (by simp) slices_Clone_sl_api_Pending_api_Pending.loops) slices_Clone_sl_api_Pending_api_Pending.at slices_Clone_sl_api_Pending_api_Pending.nm slices_Clone_sl_api_Pending_api_Pending.bd ?_
  intro vs b S v news e hS
  unfold slices_Clone_sl_api_Pending_api_Pending.C at e
  split at e
  rotate_left
  · cases e
  cases e
  rw [slices_Clone_sl_api_Pending_api_Pending.eq]
  unfold slices_Clone_sl_api_Pending_api_Pending.H
  simp (maxSteps := 4000000) only [go_sem, Nat.reduceEqDiff, Nat.reduceLT, Nat.reduceAdd, Nat.reduceSub, Nat.reduceLeDiff, List.reduceReplicate, Int.reduceToNat]
  rename_i l
  intro b hb
  refine ⟨fun h => ?_, fun h => ⟨hS, post_row rfl (by simp)⟩⟩
  have : l = [] := List.eq_nil_of_length_eq_zero (hb h)
  subst this
  exact post_nil rfl
def slices_Clip_sl_api_Pending_api_Pending.C : Contract
  | [.sl _ (.pends l)] => some (false, pD True (.sl true (.pends l)))
  | _ => none
set_option maxRecDepth 20000 in
theorem slices_Clip_sl_api_Pending_api_Pending.spec : FSpec Try.prog 160 slices_Clip_sl_api_Pending_api_Pending.C := by
  refine FSpec.of (ctx_ok (F := []) (S := []) (by simp) (by simp) slices_Clip_sl_api_Pending_api_Pending.loops) slices_Clip_sl_api_Pending_api_Pending.at slices_Clip_sl_api_Pending_api_Pending.nm slices_Clip_sl_api_Pending_api_Pending.bd ?_
  intro vs b S v news e hS
  unfold slices_Clip_sl_api_Pending_api_Pending.C at e
  split at e
  rotate_left
  · cases e
  cases e
  rw [slices_Clip_sl_api_Pending_api_Pending.eq]
  unfold slices_Clip_sl_api_Pending_api_Pending.H
  simp (maxSteps := 4000000) only [go_sem, Nat.reduceEqDiff, Nat.reduceLT, Nat.reduceAdd, Nat.reduceSub, Nat.reduceLeDiff, List.reduceReplicate, Int.reduceToNat]
  exact ⟨by omega, post_same rfl⟩
def slices_Equal_sl_int_int.C : Contract
  | [.sl _ (.ints .i64 a), .sl _ (.ints .i64 b)] => some (false, pD (roomy a.length) (.bool (decide (a = b))))
  | _ => none
set_option maxRecDepth 20000 in
theorem slices_Equal_sl_int_int.spec : FSpec Try.prog 59 slices_Equal_sl_int_int.C := by
  refine FSpec.of (ctx_ok (F := []) (S := []) (by simp) (by simp) slices_Equal_sl_int_int.loops) slices_Equal_sl_int_int.at slices_Equal_sl_int_int.nm slices_Equal_sl_int_int.bd ?_
  intro vs b S v news e hS
  unfold slices_Equal_sl_int_int.C at e
  split at e
  rotate_left
  · cases e
  cases e
  rw [slices_Equal_sl_int_int.eq]
  unfold slices_Equal_sl_int_int.H
  simp (maxSteps := 4000000) only [go_sem, Nat.reduceEqDiff, Nat.reduceLT, Nat.reduceAdd, Nat.reduceSub, Nat.reduceLeDiff, List.reduceReplicate, Int.reduceToNat]
  rename_i a _ b
  unfold roomy at hS
  refine ⟨fun hne => ?_, fun heq => ?_⟩
  · have : decide (a = b) = false := by rw [decide_eq_false_iff_not]; rintro rfl; exact hne rfl
    rw [this]; exact post_val rfl rfl
  rw [joinW_eq]
  unfold slices_Equal_sl_int_int.L1
  have hlen : a.length = b.length := by omega
  refine ⟨fun m lv h' => ∃ k : Nat, k + m = a.length ∧ lv = [.int .i64 k] ∧ h' = [] ∧ ∀ i, i < k → a.getD i 0 = b.getD i 0, ⟨a.length, 0, by omega, rfl, rfl, fun i hi => by omega⟩, ?_⟩
  rintro m h' t8 ⟨k, hk, hlv, rfl, hall⟩
  simp only [List.cons.injEq, and_true] at hlv
  subst hlv
  simp only [go_sem, Nat.reduceEqDiff, Nat.reduceLT, Nat.reduceAdd, Nat.reduceSub, Nat.reduceLeDiff, List.reduceReplicate, Int.reduceToNat]
  refine ⟨fun hlt => ⟨by omega, by omega, fun h0 => ?_, fun h0 => ?_⟩, fun hge => ?_⟩
  · have : decide (a = b) = false := by rw [decide_eq_false_iff_not]; rintro rfl; exact h0 rfl
    rw [this]; exact post_val rfl rfl
  · refine ⟨m - 1, by omega, k + 1, by omega, by rw [w64 (by omega) (by omega)]; rfl, ?_⟩
    intro i hi
    by_cases e : i = k
    · subst e; exact h0
    · exact hall i (by omega)
  · have : a = b := by
      apply List.ext_getElem hlen
      intro i h1 h2
      have := hall i (by omega)
      rw [List.getD_eq_getElem?_getD, List.getD_eq_getElem?_getD, List.getElem?_eq_getElem h1, List.getElem?_eq_getElem h2] at this
      exact this
    rw [decide_eq_true this]; exact post_val rfl rfl

def pmem_Check.C : Contract
  | [.agg [.sl false (.ints .i64 vol), .sl false (.ints .i64 per), .sl false (.pends pend)]] => some (false, pD (smallM vol per pend) (.bool (checkB vol per pend)))
  | _ => none
set_option maxRecDepth 20000 in
theorem pmem_Check.spec : FSpec Try.prog 147 pmem_Check.C := by
  refine FSpec.of (ctx_ok (F := [(78, pmem_sized.C), (64, slices_Clone_sl_int_int.C), (59, slices_Equal_sl_int_int.C)]) (S := []) (by simpa using ⟨pmem_sized.spec, slices_Clone_sl_int_int.spec, slices_Equal_sl_int_int.spec⟩) (by simp) pmem_Check.loops) pmem_Check.at pmem_Check.nm pmem_Check.bd ?_
  intro vs b S v news e hS
  unfold pmem_Check.C at e
  split at e
  rotate_left
  · cases e
  cases e
  rw [pmem_Check.eq]
  unfold pmem_Check.H
  simp (maxSteps := 4000000) only [go_sem, Nat.reduceEqDiff, Nat.reduceLT, Nat.reduceAdd, Nat.reduceSub, Nat.reduceLeDiff, List.reduceReplicate, Int.reduceToNat, pmem_sized.C, slices_Clone_sl_int_int.C, slices_Equal_sl_int_int.C]
  rename_i vol per pend
  obtain ⟨r1, r2, r3⟩ := hS
  unfold roomy at r1 r2 r3
  refine ⟨fun hb => ?_, fun hb => ⟨r2, ?_⟩⟩
  · have : checkB vol per pend = false := by
      unfold checkB
      rw [Bool.or_eq_true] at hb
      rcases hb with hb | hb
      · have : ¬ vol.length = per.length := by
          intro h; rw [h] at hb; simp at hb
        simp [this]
      · have : szB vol.length = false := by simpa using hb
        simp [this]
    rw [this]; exact post_val rfl rfl
  rw [Bool.or_eq_false_iff] at hb
  have hlen : vol.length = per.length := by
    have := hb.1
    rw [Bool.not_eq_false', decide_eq_true_eq] at this
    omega
  have hsz : szB vol.length = true := by simpa using hb.2
  have hcheck : checkB vol per pend = decide (chk pend per (fun _ => false) = some vol) := by unfold checkB; rw [hsz, decide_eq_true hlen]; simp
  rw [hcheck, joinW_eq]
  unfold pmem_Check.L1
  refine ⟨fun m lv h' => ∃ (k : Nat) (l : List Int) (o : Int → Bool), k + m = pend.length ∧ lv = [.int .i64 k] ∧ l.length = per.length ∧ chk pend per (fun _ => false) = chk (pend.drop k) l o ∧
      h' = [.box (.agg [.sl false (.ints .i64 vol), .sl false (.ints .i64 per), .sl false (.pends pend)]), .row .own 0 (.ints .i64 l), .map (.ib o)],
    ⟨pend.length, 0, per, fun _ => false, by omega, rfl, rfl, rfl, rfl⟩, ?_⟩
  rintro m h' t28 ⟨k, l, o, hk, hlv, hll, hchk, rfl⟩
  simp only [List.cons.injEq, and_true] at hlv
  subst hlv
  simp only [go_sem, Nat.reduceEqDiff, Nat.reduceLT, Nat.reduceAdd, Nat.reduceSub, Nat.reduceLeDiff, List.reduceReplicate, Int.reduceToNat, hll, encPend]
  refine ⟨fun hlt => ⟨by omega, ?_⟩, fun hge => ?_⟩
  · have hkl : k < pend.length := by omega
    have hd : pend.drop k = pend.getD k ⟨0, 0, false⟩ :: pend.drop (k + 1) := by
      rw [List.getD_eq_getElem?_getD, List.getElem?_eq_getElem hkl, List.drop_eq_getElem_cons hkl]; rfl
    generalize pend.getD k ⟨0, 0, false⟩ = p at *
    have hch : chk (pend.drop k) l o = match badB p l.length o with
      | true => none
      | false => chk (pend.drop (k + 1)) (l.set p.at_.toNat p.val) (opens p o) := by rw [hd]; rfl
    rw [hll] at hch
    refine ⟨fun _ _ => by decide, fun hbad => ?_, fun hok => ?_⟩
    · have : badB p per.length o = true := hbad
      rw [this] at hch
      rw [hchk, hch]; exact post_val rfl rfl
    · have hb2 : badB p per.length o = false := hok
      rw [hb2] at hch
      simp only [badB, Bool.or_eq_false_iff, decide_eq_false_iff_not] at hb2
      refine ⟨by decide, by decide, by omega, by omega, m - 1, by omega, k + 1, _, opens p o, by omega, by rw [w64 (by omega) (by omega)]; rfl, ?_, by rw [hchk]; exact hch, rfl⟩
      rw [List.length_set]; exact hll
  · have : k = pend.length := by omega
    subst this
    rw [List.drop_length] at hchk
    have hl : l.take per.length = l := List.take_of_length_le (by omega)
    simp only [hl, go_sem, Nat.reduceEqDiff, Nat.reduceLT, Nat.reduceAdd, Nat.reduceSub, Nat.reduceLeDiff, List.reduceReplicate, Int.reduceToNat, slices_Equal_sl_int_int.C]
    refine ⟨by unfold roomy; omega, ?_⟩
    rw [hchk]
    have : decide (chk [] l o = some vol) = decide (l = vol) := by simp [chk]
    rw [this]; exact post_val rfl rfl
def pmem_place.C : Contract
  | [.agg [.sl false (.ints .i64 vol), .sl false (.ints .i64 per), .sl false (.pends pend)], .int .i64 at_] => some (false, pD (smallM vol per pend) (.bool (placeB vol per pend at_)))
  | _ => none
set_option maxRecDepth 20000 in
theorem pmem_place.spec : FSpec Try.prog 159 pmem_place.C := by
  refine FSpec.of (ctx_ok (F := [(147, pmem_Check.C)]) (S := []) (by simpa using pmem_Check.spec) (by simp) pmem_place.loops) pmem_place.at pmem_place.nm pmem_place.bd ?_
  intro vs b S v news e hS
  unfold pmem_place.C at e
  split at e
  rotate_left
  · cases e
  cases e
  rw [pmem_place.eq]
  unfold pmem_place.H
  simp (maxSteps := 4000000) only [go_sem, Nat.reduceEqDiff, Nat.reduceLT, Nat.reduceAdd, Nat.reduceSub, Nat.reduceLeDiff, List.reduceReplicate, Int.reduceToNat, pmem_Check.C]
  exact ⟨fun _ => hS, post_val rfl rfl⟩
def pmem_first.C : Contract
  | [.agg [.sl false (.ints .i64 vol), .sl false (.ints .i64 per), .sl false (.pends pend)], .int .i64 line] => some (false, pD (roomy vol.length) (.int .i64 (firstI vol line)))
  | _ => none
set_option maxRecDepth 20000 in
theorem pmem_first.spec : FSpec Try.prog 161 pmem_first.C := by
  refine FSpec.of (ctx_ok (F := []) (S := []) (by simp) (by simp) pmem_first.loops) pmem_first.at pmem_first.nm pmem_first.bd ?_
  intro vs b S v news e hS
  unfold pmem_first.C at e
  split at e
  rotate_left
  · cases e
  cases e
  rw [pmem_first.eq]
  unfold pmem_first.H
  simp (maxSteps := 4000000) only [go_sem, Nat.reduceEqDiff, Nat.reduceLT, Nat.reduceAdd, Nat.reduceSub, Nat.reduceLeDiff, List.reduceReplicate, Int.reduceToNat]
  rename_i vol per pend line
  unfold roomy at hS
  have e : IntKind.i64.wrap ((vol.length : Int).tdiv 8) = ((vol.length / 8 : Nat) : Int) := by rw [tdiv8]; exact w64 (by omega) (by omega)
  rw [e]
  refine ⟨fun _ => by decide, fun hb => ?_, fun hb => ?_⟩
  · unfold firstI; rw [if_pos hb]; exact post_val rfl rfl
  · have h2 := hb
    rw [Bool.or_eq_false_iff, decide_eq_false_iff_not, decide_eq_false_iff_not] at h2
    rw [w64 (by omega) (by omega)]
    unfold firstI; rw [hb]; exact post_val rfl rfl
def pmem_Put.C : Contract
  | [.agg [.sl false (.ints .i64 vol), .sl false (.ints .i64 per), .sl false (.pends pend)], .int .i64 at_, .int .i64 val] => some (false, pD (smallM vol per pend ∧ roomy (pend.length + 1)) (putM vol per pend at_ val))
  | _ => none
set_option maxRecDepth 20000 in
theorem pmem_Put.spec : FSpec Try.prog 156 pmem_Put.C := by
  refine FSpec.of (ctx_ok (F := [(159, pmem_place.C), (160, slices_Clip_sl_api_Pending_api_Pending.C)]) (S := []) (by simpa using ⟨pmem_place.spec, slices_Clip_sl_api_Pending_api_Pending.spec⟩) (by simp) pmem_Put.loops) pmem_Put.at pmem_Put.nm pmem_Put.bd ?_
  intro vs b S v news e hS
  unfold pmem_Put.C at e
  split at e
  rotate_left
  · cases e
  cases e
  rw [pmem_Put.eq]
  unfold pmem_Put.H
  simp (maxSteps := 4000000) only [go_sem, Nat.reduceEqDiff, Nat.reduceLT, Nat.reduceAdd, Nat.reduceSub, Nat.reduceLeDiff, List.reduceReplicate, Int.reduceToNat, pmem_place.C, slices_Clip_sl_api_Pending_api_Pending.C]
  rename_i vol per pend at_ val
  obtain ⟨hS, hr⟩ := hS
  refine ⟨hS, fun hb => ?_, fun hb => ?_⟩
  · unfold putM; rw [hb]; exact post_val rfl rfl
  · have hp : 0 ≤ at_ ∧ at_ < (vol.length : Int) := by
      simp only [placeB, Bool.and_eq_true, decide_eq_true_eq] at hb
      exact hb.1
    have e : vol ++ List.take (vol.length - min vol.length vol.length) (List.drop (min vol.length vol.length) (List.replicate vol.length 0)) = vol := by simp
    rw [e]
    have hl : (pend ++ [(⟨at_, val, false⟩ : Pend)]).length = pend.length + 1 := by simp
    rw [hl]
    refine ⟨⟨by omega, by omega, hS.1⟩, hp, by omega, hr, rfl, ?_⟩
    unfold putM
    simp only [hb, if_true]
    refine post_val ?_ rfl
    have t1 : (vol.set at_.toNat val).take vol.length = vol.set at_.toNat val := List.take_of_length_le (by simp)
    have t2 : (pend ++ [(⟨at_, val, false⟩ : Pend)]).take (pend.length + 1) = pend ++ [(⟨at_, val, false⟩ : Pend)] := List.take_of_length_le (by simp)
    simp only [go_sem, Nat.reduceEqDiff, Nat.reduceLT, Nat.reduceAdd, Nat.reduceSub, Nat.reduceLeDiff, List.reduceReplicate, Int.reduceToNat, memV, t1, t2]
def pmem_of_1.I : Con → Con := fun Y args h K => match args with
  | [.fn (.yield l) [] [], a0, a1] => pmem_of_1.H ((ctx [] [] pmem_of_1.loops).withY l Y) (.fn (.yield l) [] []) a0 a1 h K
  | _ => False
theorem pmem_of_1.spec : ISpec Try.prog 166 pmem_of_1.I := by
  refine ISpec.of (ctx_ok (F := []) (S := []) (by simp) (by simp) pmem_of_1.loops).toOkI pmem_of_1.at pmem_of_1.nm pmem_of_1.bd ?_
  intro Yc l cap h K hC
  unfold pmem_of_1.I at hC
  split at hC
  · rename_i e
    simp only [List.cons.injEq, AV.fn.injEq, Fn.yield.injEq, and_true, true_and] at e
    obtain ⟨rfl, rfl⟩ := e
    rw [pmem_of_1.eq]; exact hC
  · exact hC.elim
def pmem_of.K : Con := fun args h K => match args with
  | [a0, a1] => pmem_of.H (ctx [] [] pmem_of.loops) a0 a1 h K
  | _ => False
theorem pmem_of.spec : SSpec Try.prog 163 pmem_of.K := by
  refine SSpec.of (ctx_ok (F := []) (S := []) (by simp) (by simp) pmem_of.loops) pmem_of.at pmem_of.nm pmem_of.bd ?_
  intro args h K hC
  unfold pmem_of.K at hC
  split at hC
  · rw [pmem_of.eq]; exact hC
  · exact hC.elim
def pmem_Flush.C : Contract
  | [.agg [.sl false (.ints .i64 vol), .sl false (.ints .i64 per), .sl false (.pends pend)], .int .i64 line] => some (false, pD (smallM vol per pend) (flushM vol per pend line))
  | _ => none
set_option maxRecDepth 20000 in
theorem pmem_Flush.spec : FSpec Try.prog 157 pmem_Flush.C := by
  refine FSpec.of (ctxI_ok (F := [(159, pmem_place.C), (161, pmem_first.C), (162, slices_Clone_sl_api_Pending_api_Pending.C)]) (S := [(163, pmem_of.K)]) (Is := [(166, pmem_of_1.I)]) (by simpa using ⟨pmem_place.spec, pmem_first.spec, slices_Clone_sl_api_Pending_api_Pending.spec⟩) (by simpa using pmem_of.spec) (by simpa using pmem_of_1.spec) pmem_Flush.loops) pmem_Flush.at pmem_Flush.nm pmem_Flush.bd ?_
  intro vs b S v news e hS
  unfold pmem_Flush.C at e
  split at e
  rotate_left
  · cases e
  cases e
  rw [pmem_Flush.eq]
  unfold pmem_Flush.H
  simp (maxSteps := 4000000) only [go_sem, Nat.reduceEqDiff, Nat.reduceLT, Nat.reduceAdd, Nat.reduceSub, Nat.reduceLeDiff, List.reduceReplicate, Int.reduceToNat, pmem_place.C, pmem_first.C, slices_Clone_sl_api_Pending_api_Pending.C, pmem_of.K, pmem_of.H, pmem_of_1.I, pmem_of_1.H, joinW_eq]
  rename_i vol per pend line
  refine ⟨hS.1, hS, fun hb => ?_, fun hb => ⟨hS.2.2, ?_⟩⟩
  · unfold flushM; rw [hb]; exact post_val rfl rfl
  intro l r
  obtain ⟨s1, s2, s3⟩ := hS
  unfold roomy at s1 s2 s3
  unfold pmem_of_1.L1
  refine ⟨fun m lv h' => ∃ k : Nat, k + m = pend.length ∧ lv = [.int .i64 k] ∧ h' = [.box (.agg [.sl false (.ints .i64 vol), .sl false (.ints .i64 per), .sl false (.pends pend)]),
      .box (.agg [.sl false (.ints .i64 []), .sl false (.ints .i64 []), .sl false (.pends [])]), .row .own 0 (.pends (flushP line (pend.take k) ++ pend.drop k)), .box (.sref false 2 0 0 pend.length),
      .box (.agg [.sl false (.ints .i64 vol), .sl false (.ints .i64 per), .sl false (.pends pend)]), .box (.int .i64 line), .lp .ready none r],
    ⟨pend.length, 0, by omega, rfl, rfl⟩, ?_⟩
  rintro m h' t9 ⟨k, hk, hlv, rfl⟩
  simp only [List.cons.injEq, and_true] at hlv
  subst hlv
  have hlen : (flushP line (pend.take k) ++ pend.drop k).length = pend.length := by simp [flushP]; omega
  simp only [go_sem, Nat.reduceEqDiff, Nat.reduceLT, Nat.reduceAdd, Nat.reduceSub, Nat.reduceLeDiff, List.reduceReplicate, Int.reduceToNat, encPend, hlen]
  refine ⟨fun hlt => ?_, fun hge => ?_⟩
  · have hkl : k < pend.length := by omega
    have hget : (flushP line (pend.take k) ++ pend.drop k).getD k ⟨0, 0, false⟩ = pend.getD k ⟨0, 0, false⟩ := by
      rw [List.getD_eq_getElem?_getD, List.getElem?_append_right (by simp [flushP]; omega)]
      have e : k - (flushP line (pend.take k)).length = 0 := by simp [flushP]; omega
      rw [e, List.getElem?_drop, Nat.add_zero, List.getD_eq_getElem?_getD]
    have hdrop : pend.drop k = pend.getD k ⟨0, 0, false⟩ :: pend.drop (k + 1) := by
      rw [List.getD_eq_getElem?_getD, List.getElem?_eq_getElem hkl, List.drop_eq_getElem_cons hkl]; rfl
    have hset : ∀ q : Pend, (flushP line (pend.take k) ++ pend.drop k).set k q = flushP line (pend.take k) ++ q :: pend.drop (k + 1) := by
      intro q
      rw [hdrop, List.set_append_right _ _ (by simp [flushP]; omega)]
      have e : k - (flushP line (pend.take k)).length = 0 := by simp [flushP]; omega
      rw [e]; rfl
    have hnx : flushP line (pend.take (k + 1)) = flushP line (pend.take k) ++ [if lineOf (pend.getD k ⟨0, 0, false⟩).at_ = line then { pend.getD k ⟨0, 0, false⟩ with fl := true } else pend.getD k ⟨0, 0, false⟩] := by
      rw [take_next pend k ⟨0, 0, false⟩ hkl]
      simp [flushP]
    rw [joinW_eq]
    simp only [guardW_bool, hget, hset]
    refine ⟨by omega, by decide, fun hc => ?_, fun hc => ?_⟩
    · have hc : lineOf (pend.getD k ⟨0, 0, false⟩).at_ = line := by simpa [lineOf] using hc
      simp only [go_sem, Nat.reduceEqDiff, Nat.reduceLT, Nat.reduceAdd, Nat.reduceSub, Nat.reduceLeDiff, List.reduceReplicate, Int.reduceToNat]
      refine ⟨⟨by omega, by omega⟩, hkl, m - 1, by omega, k + 1, by omega, by rw [w64 (by omega) (by omega)]; rfl, ?_⟩
      rw [hnx, if_pos hc, List.append_assoc]; rfl
    · have hc : ¬ lineOf (pend.getD k ⟨0, 0, false⟩).at_ = line := by simpa [lineOf] using hc
      simp only [go_sem, Nat.reduceEqDiff, Nat.reduceLT, Nat.reduceAdd, Nat.reduceSub, Nat.reduceLeDiff, List.reduceReplicate, Int.reduceToNat]
      refine ⟨m - 1, by omega, k + 1, by omega, by rw [w64 (by omega) (by omega)]; rfl, ?_⟩
      rw [hnx, if_neg hc, List.append_assoc, hdrop]; rfl
  · have : k = pend.length := by omega
    subst this
    rw [List.take_length, List.drop_length, List.append_nil] at hlen
    have e : flushP line (pend.take pend.length) ++ pend.drop pend.length = flushP line pend := by rw [List.take_length, List.drop_length, List.append_nil]
    rw [e]
    unfold flushM
    simp only [hb, if_true]
    refine post_val ?_ rfl
    have t1 : (flushP line pend).take pend.length = flushP line pend := List.take_of_length_le (by omega)
    simp only [go_sem, Nat.reduceEqDiff, Nat.reduceLT, Nat.reduceAdd, Nat.reduceSub, Nat.reduceLeDiff, List.reduceReplicate, Int.reduceToNat, memV, t1]
def pmem_Fence_1.C : Contract
  | [.agg [.int .i64 a, .int .i64 v, .bool f]] => some (false, pD True (.bool f))
  | _ => none
set_option maxRecDepth 20000 in
theorem pmem_Fence_1.spec : FSpec Try.prog 165 pmem_Fence_1.C := by
  refine FSpec.of (ctx_ok (F := []) (S := []) (by simp) (by simp) pmem_Fence_1.loops) pmem_Fence_1.at pmem_Fence_1.nm pmem_Fence_1.bd ?_
  intro vs b S v news e hS
  unfold pmem_Fence_1.C at e
  split at e
  rotate_left
  · cases e
  cases e
  rw [pmem_Fence_1.eq]
  unfold pmem_Fence_1.H
  simp (maxSteps := 4000000) only [go_sem, Nat.reduceEqDiff, Nat.reduceLT, Nat.reduceAdd, Nat.reduceSub, Nat.reduceLeDiff, List.reduceReplicate, Int.reduceToNat]
  exact post_val rfl rfl
def pmem_keep.K : Con := fun args h K => match args with
  | [a0, a1] => pmem_keep.H (ctx [(64, slices_Clone_sl_int_int.C), (165, pmem_Fence_1.C)] [] pmem_keep.loops) a0 a1 h K
  | _ => False
theorem pmem_keep.spec : SSpec Try.prog 164 pmem_keep.K := by
  refine SSpec.of (ctx_ok (F := [(64, slices_Clone_sl_int_int.C), (165, pmem_Fence_1.C)]) (S := []) (by simpa using ⟨slices_Clone_sl_int_int.spec, pmem_Fence_1.spec⟩) (by simp) pmem_keep.loops) pmem_keep.at pmem_keep.nm pmem_keep.bd ?_
  intro args h K hC
  unfold pmem_keep.K at hC
  split at hC
  · rw [pmem_keep.eq]; exact hC
  · exact hC.elim

def pmem_Fence.C : Contract
  | [.agg [.sl false (.ints .i64 vol), .sl false (.ints .i64 per), .sl false (.pends pend)]] => some (false, pD (smallM vol per pend) (fenceM fFl (checkB vol per pend) vol per pend))
  | _ => none
set_option maxRecDepth 20000 in
theorem pmem_Fence.spec : FSpec Try.prog 158 pmem_Fence.C := by
  refine FSpec.of (ctx_ok (F := [(147, pmem_Check.C)]) (S := [(164, pmem_keep.K)]) (by simpa using pmem_Check.spec) (by simpa using pmem_keep.spec) pmem_Fence.loops) pmem_Fence.at pmem_Fence.nm pmem_Fence.bd ?_
  intro vs b S v news e hS
  unfold pmem_Fence.C at e
  split at e
  rotate_left
  · cases e
  cases e
  rw [pmem_Fence.eq]
  unfold pmem_Fence.H
  simp (maxSteps := 4000000) only [go_sem, Nat.reduceEqDiff, Nat.reduceLT, Nat.reduceAdd, Nat.reduceSub, Nat.reduceLeDiff, List.reduceReplicate, Int.reduceToNat, pmem_Check.C, pmem_keep.K, pmem_keep.H, slices_Clone_sl_int_int.C]
  rename_i vol per pend
  refine ⟨hS, fun hb => ?_, fun hb => ⟨hS.2.1, ?_⟩⟩
  · unfold fenceM; rw [hb]; exact post_val rfl rfl
  obtain ⟨s1, s2, s3⟩ := hS
  unfold roomy at s1 s2 s3
  have hrange := check_range hb
  rw [joinW_eq]
  unfold pmem_keep.L1
  refine ⟨fun m lv h' => ∃ k v : Nat, k + m = pend.length ∧ lv = [.int .i64 k] ∧ h' = [.box (.agg [.sl false (.ints .i64 vol), .sl false (.ints .i64 per), .sl false (.pends pend)]), .box (.agg [.sl false (.ints .i64 []), .sl false (.ints .i64 []), .sl false (.pends [])]), .box (.agg [.sl false (.ints .i64 vol), .sl false (.ints .i64 per), .sl false (.pends pend)]), .box (.agg [.sl false (.ints .i64 []), .sl false (.ints .i64 []), .sl false (.pends [])]), .row .own 0 (.ints .i64 (keepW fFl (pend.take k) per)), .box (.agg [.sl false (.ints .i64 vol), .sref false 4 0 0 per.length, .sref false 6 v 0 (keepP fFl (pend.take k)).length]), .row .own v (.pends (keepP fFl (pend.take k)))],
    ⟨pend.length, 0, 0, by omega, rfl, rfl⟩, ?_⟩
  rintro m h' t17 ⟨k, v, hk, hlv, rfl⟩
  simp only [List.cons.injEq, and_true] at hlv
  subst hlv
  have hwl : (keepW fFl (pend.take k) per).length = per.length := keepW_len _ _ _
  have hpl : (keepP fFl (pend.take k)).length ≤ k := Nat.le_trans (List.length_filter_le _ _) (by simp; omega)
  simp only [go_sem, Nat.reduceEqDiff, Nat.reduceLT, Nat.reduceAdd, Nat.reduceSub, Nat.reduceLeDiff, List.reduceReplicate, Int.reduceToNat, encPend, hwl, pmem_Fence_1.C]
  refine ⟨fun hlt => ?_, fun hge => ?_⟩
  · have hkl : k < pend.length := by omega
    have hr := hrange _ (getD_mem pend k ⟨0, 0, false⟩ hkl)
    have hW := keepW_snoc fFl (pend.getD k ⟨0, 0, false⟩) (pend.take k) per
    have hP := keepP_snoc fFl (pend.getD k ⟨0, 0, false⟩) (pend.take k)
    rw [← take_next pend k ⟨0, 0, false⟩ hkl] at hW hP
    generalize pend.getD k ⟨0, 0, false⟩ = p at *
    try rw [joinW_eq]
    refine ⟨by omega, fun hc => ?_, fun hc => ?_⟩
    · have hc : fFl p = true := hc
      rw [hc] at hW hP
      simp only [go_sem, Nat.reduceEqDiff, Nat.reduceLT, Nat.reduceAdd, Nat.reduceSub, Nat.reduceLeDiff, List.reduceReplicate, Int.reduceToNat]
      refine ⟨hr, by omega, m - 1, by omega, k + 1, v, by omega, by rw [w64 (by omega) (by omega)]; rfl, ?_⟩
      rw [hW, hP]
    · have hc : fFl p = false := hc
      rw [hc] at hW hP
      simp only [go_sem, Nat.reduceEqDiff, Nat.reduceLT, Nat.reduceAdd, Nat.reduceSub, Nat.reduceLeDiff, List.reduceReplicate, Int.reduceToNat]
      refine ⟨by unfold roomy; simp; omega, m - 1, by omega, k + 1, v + 1, by omega, by rw [w64 (by omega) (by omega)]; rfl, ?_⟩
      rw [hW, hP]
  · have : k = pend.length := by omega
    subst this
    rw [List.take_length] at hwl hpl ⊢
    have t1 : (keepW fFl pend per).take per.length = keepW fFl pend per := List.take_of_length_le (by omega)
    have t2 : (keepP fFl pend).take (keepP fFl pend).length = keepP fFl pend := List.take_length
    unfold fenceM
    simp only [hb, if_true, go_sem, Nat.reduceEqDiff, Nat.reduceLT, Nat.reduceAdd, Nat.reduceSub, Nat.reduceLeDiff, List.reduceReplicate, Int.reduceToNat]
    refine post_val ?_ rfl
    simp only [go_sem, Nat.reduceEqDiff, Nat.reduceLT, Nat.reduceAdd, Nat.reduceSub, Nat.reduceLeDiff, List.reduceReplicate, Int.reduceToNat, memV, t1, t2]

end Lam
namespace Lam
open Go Go.Proofs
set_option linter.unusedVariables false
set_option linter.unnecessarySimpa false
set_option linter.unusedSimpArgs false
def fast_may_1.C : Contract
  | [.int .i64 n] => some (false, pD True (.bool (lt1 n)))
  | _ => none
set_option maxRecDepth 20000 in
theorem fast_may_1.spec : FSpec Try.prog 106 fast_may_1.C := by
  refine FSpec.of (ctx_ok (F := []) (S := []) (by simp) (by simp) fast_may_1.loops) fast_may_1.at fast_may_1.nm fast_may_1.bd ?_
  intro vs b S v news e hS
  unfold fast_may_1.C at e
  split at e
  rotate_left
  · cases e
  cases e
  rw [fast_may_1.eq]
  unfold fast_may_1.H
  simp (maxSteps := 4000000) only [go_sem, Nat.reduceEqDiff, Nat.reduceLT, Nat.reduceAdd, Nat.reduceSub, Nat.reduceLeDiff, List.reduceReplicate, Int.reduceToNat]
  exact post_val rfl rfl
def fast_Slots_1.C : Contract
  | [.int .i64 n] => some (false, pD True (.bool (lt1 n)))
  | _ => none
set_option maxRecDepth 20000 in
theorem fast_Slots_1.spec : FSpec Try.prog 90 fast_Slots_1.C := by
  refine FSpec.of (ctx_ok (F := []) (S := []) (by simp) (by simp) fast_Slots_1.loops) fast_Slots_1.at fast_Slots_1.nm fast_Slots_1.bd ?_
  intro vs b S v news e hS
  unfold fast_Slots_1.C at e
  split at e
  rotate_left
  · cases e
  cases e
  rw [fast_Slots_1.eq]
  unfold fast_Slots_1.H
  simp (maxSteps := 4000000) only [go_sem, Nat.reduceEqDiff, Nat.reduceLT, Nat.reduceAdd, Nat.reduceSub, Nat.reduceLeDiff, List.reduceReplicate, Int.reduceToNat]
  exact post_val rfl rfl
def node_block.C : Contract
  | [.int .i64 n] => some (false, pD True (.bool (blockB n)))
  | _ => none
set_option maxRecDepth 20000 in
theorem node_block.spec : FSpec Try.prog 98 node_block.C := by
  refine FSpec.of (ctx_ok (F := []) (S := []) (by simp) (by simp) node_block.loops) node_block.at node_block.nm node_block.bd ?_
  intro vs b S v news e hS
  unfold node_block.C at e
  split at e
  rotate_left
  · cases e
  cases e
  rw [node_block.eq]
  unfold node_block.H
  simp (maxSteps := 4000000) only [go_sem, Nat.reduceEqDiff, Nat.reduceLT, Nat.reduceAdd, Nat.reduceSub, Nat.reduceLeDiff, List.reduceReplicate, Int.reduceToNat]
  exact post_val rfl rfl
def node_Check_1.C : Contract
  | [.int .i64 n] => some (false, pD True (.bool (noBlock n)))
  | _ => none
set_option maxRecDepth 20000 in
theorem node_Check_1.spec : FSpec Try.prog 100 node_Check_1.C := by
  refine FSpec.of (ctx_ok (F := [(98, node_block.C)]) (S := []) (by simpa using node_block.spec) (by simp) node_Check_1.loops) node_Check_1.at node_Check_1.nm node_Check_1.bd ?_
  intro vs b S v news e hS
  unfold node_Check_1.C at e
  split at e
  rotate_left
  · cases e
  cases e
  rw [node_Check_1.eq]
  unfold node_Check_1.H
  simp (maxSteps := 4000000) only [go_sem, Nat.reduceEqDiff, Nat.reduceLT, Nat.reduceAdd, Nat.reduceSub, Nat.reduceLeDiff, List.reduceReplicate, Int.reduceToNat, node_block.C]
  exact post_val rfl rfl
theorem indexInts_vc (c : Ctx) (hd : c.drawn = false) (f : FuncId) (p : Int → Bool) (hf : ∀ n, c.envF f [.int .i64 n] = some (false, pD True (.bool (p n)))) (x : Bool) (l : List Int) (hr : roomy l.length) :
    slices_IndexFunc_sl_int_int.H c (.sl x (.ints .i64 l)) (.fn (.func f) [] []) [] (Post false (.int .i64 (idxI p l)) []) := by
  unfold roomy at hr
  unfold slices_IndexFunc_sl_int_int.H
  simp only [go_sem, Nat.reduceEqDiff, Nat.reduceLT, Nat.reduceAdd, Nat.reduceSub, Nat.reduceLeDiff, List.reduceReplicate, Int.reduceToNat]
  rw [joinW_eq]
  unfold slices_IndexFunc_sl_int_int.L1
  refine loop1 (σ := Nat) (fun k => .int .i64 k) (fun k => []) (fun k => l.length - k) (fun k => k ≤ l.length ∧ ∀ y ∈ l.take k, p y = false) 0 rfl rfl ⟨Nat.zero_le _, by simp⟩ ?_
  rintro I back k ⟨hk, hall⟩
  simp only [hf, hd, go_sem, Nat.reduceEqDiff, Nat.reduceLT, Nat.reduceAdd, Nat.reduceSub, Nat.reduceLeDiff, List.reduceReplicate, Int.reduceToNat]
  refine ⟨fun hlt => ⟨by omega, fun h => ?_, fun h => ?_⟩, fun hge => ?_⟩
  · have hkl : k < l.length := by omega
    have h1 : l.any p = true := List.any_eq_true.2 ⟨_, getD_mem l k 0 hkl, h⟩
    have h2 : l.findIdx p = k := by
      rw [List.findIdx_eq hkl]
      refine ⟨by rw [List.getD_eq_getElem?_getD, List.getElem?_eq_getElem hkl] at h; exact h, fun j hj => ?_⟩
      have := hall l[j] (List.mem_take_iff_getElem.2 ⟨j, by omega, rfl⟩)
      simpa using this
    unfold idxI; rw [if_pos h1, h2]
    exact post_val rfl rfl
  · refine back (k + 1) (by omega) (by rw [wnext (by omega)]) rfl ⟨by omega, fun y hy => ?_⟩
    rw [take_next l k 0 (by omega), List.mem_append, List.mem_singleton] at hy
    rcases hy with hy | rfl
    · exact hall y hy
    · exact h
  · obtain rfl : k = l.length := by omega
    rw [List.take_length] at hall
    have h1 : ¬ l.any p = true := by
      rw [List.any_eq_true]; rintro ⟨y, hy, hp⟩; rw [hall y hy] at hp; cases hp
    unfold idxI; rw [if_neg h1]
    exact post_val rfl rfl
def predI (f : Nat) : Option (Int → Bool) :=
  if f = 106 then some lt1 else
  if f = 90 then some lt1 else
  if f = 100 then some noBlock else
  none
@[go_sem] theorem predI_fm : predI 106 = some lt1 := rfl
@[go_sem] theorem predI_fs : predI 90 = some lt1 := rfl
@[go_sem] theorem predI_nc : predI 100 = some noBlock := rfl
def slices_IndexFunc_sl_int_int.C : Contract
  | [.sl _ (.ints .i64 l), .fn (.func f) [] []] => match predI f with
    | some p => some (false, pD (roomy l.length) (.int .i64 (idxI p l)))
    | none => none
  | _ => none
theorem slices_IndexFunc_sl_int_int.spec : FSpec Try.prog 89 slices_IndexFunc_sl_int_int.C := by
  refine FSpec.of (ctx_ok (F := [(106, fast_may_1.C), (90, fast_Slots_1.C), (100, node_Check_1.C)]) (S := []) (by simpa using ⟨fast_may_1.spec, fast_Slots_1.spec, node_Check_1.spec⟩) (by simp) slices_IndexFunc_sl_int_int.loops) slices_IndexFunc_sl_int_int.at slices_IndexFunc_sl_int_int.nm slices_IndexFunc_sl_int_int.bd ?_
  intro vs b S v news e hS
  unfold slices_IndexFunc_sl_int_int.C at e
  split at e
  rotate_left
  · cases e
  rw [slices_IndexFunc_sl_int_int.eq]
  rename_i x l f
  split at e
  rotate_left
  · cases e
  rename_i p hp
  cases e
  refine indexInts_vc _ rfl f p (fun n => ?_) x l hS
  unfold predI at hp
  simp only [ctx_envF]
  repeat' split at hp
  all_goals first | (rename_i h; subst h; cases hp; rfl) | cases hp
def slices_ContainsFunc_sl_int_int.C : Contract
  | [.sl _ (.ints .i64 l), .fn (.func f) [] []] => match predI f with
    | some p => some (false, pD (roomy l.length) (.bool (l.any p)))
    | none => none
  | _ => none
theorem slices_ContainsFunc_sl_int_int.spec : FSpec Try.prog 99 slices_ContainsFunc_sl_int_int.C := by
  refine FSpec.of (ctx_ok (F := [(89, slices_IndexFunc_sl_int_int.C)]) (S := []) (by simpa using slices_IndexFunc_sl_int_int.spec) (by simp) slices_ContainsFunc_sl_int_int.loops) slices_ContainsFunc_sl_int_int.at slices_ContainsFunc_sl_int_int.nm slices_ContainsFunc_sl_int_int.bd ?_
  intro vs b S v news e hS
  unfold slices_ContainsFunc_sl_int_int.C at e
  split at e
  rotate_left
  · cases e
  rw [slices_ContainsFunc_sl_int_int.eq]
  rename_i x l f
  split at e
  rotate_left
  · cases e
  rename_i p hp
  cases e
  unfold slices_ContainsFunc_sl_int_int.H
  simp only [slices_IndexFunc_sl_int_int.C, hp, go_sem, Nat.reduceEqDiff, Nat.reduceLT, Nat.reduceAdd, Nat.reduceSub, Nat.reduceLeDiff, List.reduceReplicate, Int.reduceToNat]
  refine ⟨hS, ?_⟩
  have : decide (0 ≤ idxI p l) = l.any p := by
    unfold idxI
    cases h : l.any p
    · rfl
    · rw [if_pos rfl]; exact decide_eq_true (by omega)
  rw [this]; exact post_val rfl rfl
end Lam
namespace Lam
open Go Go.Proofs
set_option linter.unusedVariables false
set_option linter.unnecessarySimpa false
set_option linter.unusedSimpArgs false
theorem idx_eq {l : List Int} {v : Int} {k : Nat} (hk : k < l.length) (h : v = l.getD k 0) (hall : ∀ y ∈ l.take k, (decide (v = y)) = false) : idxI (fun y => decide (v = y)) l = k := by
  have h1 : l.any (fun y => decide (v = y)) = true := List.any_eq_true.2 ⟨_, getD_mem l k 0 hk, decide_eq_true h⟩
  have h2 : l.findIdx (fun y => decide (v = y)) = k := by
    rw [List.findIdx_eq hk]
    refine ⟨by rw [List.getD_eq_getElem?_getD, List.getElem?_eq_getElem hk] at h; exact decide_eq_true h, fun j hj => ?_⟩
    exact hall l[j] (List.mem_take_iff_getElem.2 ⟨j, by omega, rfl⟩)
  unfold idxI; rw [if_pos h1, h2]
theorem idx_none {l : List Int} {v : Int} (h : v ∉ l) : idxI (fun y => decide (v = y)) l = -1 := by
  unfold idxI
  rw [if_neg]
  rw [List.any_eq_true]
  rintro ⟨y, hy, hp⟩
  have := of_decide_eq_true hp
  subst this; exact h hy
def slices_Index_sl_int_int.C : Contract
  | [.sl _ (.ints .i64 l), .int .i64 v] => some (false, pD (roomy l.length) (.int .i64 (idxI (fun y => decide (v = y)) l)))
  | _ => none
set_option maxRecDepth 20000 in
theorem slices_Index_sl_int_int.spec : FSpec Try.prog 110 slices_Index_sl_int_int.C := by
  refine FSpec.of (ctx_ok (F := []) (S := []) (by simp) (by simp) slices_Index_sl_int_int.loops) slices_Index_sl_int_int.at slices_Index_sl_int_int.nm slices_Index_sl_int_int.bd ?_
  intro vs b S v news e hS
  unfold slices_Index_sl_int_int.C at e
  split at e
  rotate_left
  · cases e
  cases e
  rw [slices_Index_sl_int_int.eq]
  unfold slices_Index_sl_int_int.H
  simp (maxSteps := 4000000) only [go_sem, Nat.reduceEqDiff, Nat.reduceLT, Nat.reduceAdd, Nat.reduceSub, Nat.reduceLeDiff, List.reduceReplicate, Int.reduceToNat]
  rename_i _ l v
  have hr := hS
  unfold roomy at hr
  rw [joinW_eq]
  unfold slices_Index_sl_int_int.L1
  refine loop1 (σ := Nat) (fun k => .int .i64 k) (fun k => []) (fun k => l.length - k) (fun k => k ≤ l.length ∧ ∀ y ∈ l.take k, decide (v = y) = false) 0 rfl rfl ⟨Nat.zero_le _, by simp⟩ ?_
  rintro I back k ⟨hk, hall⟩
  simp only [go_sem, Nat.reduceEqDiff, Nat.reduceLT, Nat.reduceAdd, Nat.reduceSub, Nat.reduceLeDiff, List.reduceReplicate, Int.reduceToNat]
  refine ⟨fun hlt => ⟨by omega, fun h => ?_, fun h => ?_⟩, fun hge => ?_⟩
  · rw [← idx_eq (by omega) h hall]
    exact post_val rfl rfl
  · refine back (k + 1) (by omega) (by rw [wnext (by omega)]) rfl ⟨by omega, fun y hy => ?_⟩
    rw [take_next l k 0 (by omega), List.mem_append, List.mem_singleton] at hy
    rcases hy with hy | rfl
    · exact hall y hy
    · exact decide_eq_false h
  · obtain rfl : k = l.length := by omega
    rw [List.take_length] at hall
    rw [idx_none (fun hm => by have := hall v hm; simp at this)]
    exact post_val rfl rfl
def slices_Contains_sl_int_int.C : Contract
  | [.sl _ (.ints .i64 l), .int .i64 v] => some (false, pD (roomy l.length) (.bool (decide (v ∈ l))))
  | _ => none
set_option maxRecDepth 20000 in
theorem slices_Contains_sl_int_int.spec : FSpec Try.prog 83 slices_Contains_sl_int_int.C := by
  refine FSpec.of (ctx_ok (F := [(110, slices_Index_sl_int_int.C)]) (S := []) (by simpa using slices_Index_sl_int_int.spec) (by simp) slices_Contains_sl_int_int.loops) slices_Contains_sl_int_int.at slices_Contains_sl_int_int.nm slices_Contains_sl_int_int.bd ?_
  intro vs b S v news e hS
  unfold slices_Contains_sl_int_int.C at e
  split at e
  rotate_left
  · cases e
  cases e
  rw [slices_Contains_sl_int_int.eq]
  unfold slices_Contains_sl_int_int.H
  simp (maxSteps := 4000000) only [go_sem, Nat.reduceEqDiff, Nat.reduceLT, Nat.reduceAdd, Nat.reduceSub, Nat.reduceLeDiff, List.reduceReplicate, Int.reduceToNat, slices_Index_sl_int_int.C]
  rename_i _ l v
  refine ⟨hS, ?_⟩
  have : decide (0 ≤ idxI (fun y => decide (v = y)) l) = decide (v ∈ l) := by
    by_cases h : v ∈ l
    · rw [decide_eq_true h]
      unfold idxI
      rw [if_pos (List.any_eq_true.2 ⟨v, h, decide_eq_true rfl⟩)]
      exact decide_eq_true (by omega)
    · rw [idx_none h, decide_eq_false h]; rfl
  rw [this]
  exact post_val rfl rfl
end Lam
namespace Lam
open Go Go.Proofs
set_option linter.unusedVariables false
def sum_Of.loops : Nat → LInfo
  | 4 => ⟨[4, 10], [false, false], [3, 8, 9], [], [], []⟩
  | _ => ⟨[], [], [], [], [], []⟩
def sum_Of.L1 (c : Ctx) (J1 : AV → List AObj → Prop) (K : AOut → List AObj → Prop) (lv : List AV) (h0 : List AObj) (n0 : Nat) (c3 : AV) (c8 : AV) (c9 : AV) : Prop :=
  ∃ I : Nat → List AV → List AObj → Prop, (∃ n, I n lv h0) ∧ ∀ n h, ∀ t4, ∀ t10, I n [t4, t10] h →
    runD (binD T_int .lss t10 c9) h fun t11 h =>
    condW t11
    (runD (indexAddrD T_sl_int h c8 t10) h fun t12 h =>
    runD (fitD T_int (loadD h t12)) h fun t13 h =>
    callW false c (.fn (.func 135) [] []) [c3, t4, t13] h (fun t16 h =>
    runD (binD T_int .add t10 (.int .i64 1)) h fun t17 h =>
    (∃ m, m < n ∧ I m (AV.norms n0 h [t16, t17]) (normH n0 h)) ∧ AV.norms n0 h [c3, c8, c9] = [c3, c8, c9])
    (fun v h => K (.pan v) h))
    (J1 t4 h)
def sum_Of.H (c : Ctx) (t0 : AV) (h : List AObj) (K : AOut → List AObj → Prop) : Prop :=
  callW false c (.fn (.func 134) [] []) [] h (fun t7 h =>
  allocW T_256_uint32 h fun t3 h =>
  runH (storeH T_256_uint32 h t3 t7) h fun _ h =>
  runD (lenD T_sl_int h t0) h fun t9 h =>
  joinW (fun (J1 : AV → List AObj → Prop) =>
  promV [false, false] [(.int .u32 4294967295), (.int .i64 0)] h fun lv h => sum_Of.L1 c J1 K (AV.norms h.length h lv) (normH h.length h) h.length (AV.norm h.length h t3) (AV.norm h.length h t0) (AV.norm h.length h t9))
  (fun t4 h => runD (unD .xor t4) h fun t19 h =>
  runD (convD h T_uint32 T_int t19) h fun t20 h =>
  K (.ret t20) h))
  (fun v h => K (.pan v) h)
def sum_table.loops : Nat → LInfo
  | 2 => ⟨[3], [false], [0], [], [], []⟩
  | 6 => ⟨[2, 8], [false, false], [0, 1, 3], [], [], []⟩
  | _ => ⟨[], [], [], [], [], []⟩
def sum_table.L2 (c : Ctx) (J3 : AV → AV → AV → AV → List AObj → Prop) (K : AOut → List AObj → Prop) (lv : List AV) (h0 : List AObj) (n0 : Nat) (c0 : AV) (c1 : AV) (c3 : AV) : Prop :=
  ∃ I : Nat → List AV → List AObj → Prop, (∃ n, I n lv h0) ∧ ∀ n h, ∀ t2, ∀ t8, I n [t2, t8] h →
    runD (binD T_int .lss t8 (.int .i64 8)) h fun t9 h =>
    condW t9
    (runD (binD T_uint32 .shr t2 (.int .u64 1)) h fun t11 h =>
    runD (binD T_uint32 .and t2 (.int .u32 1)) h fun t13 h =>
    runD (unD .neg t13) h fun t14 h =>
    runD (binD T_uint32 .and (.int .u32 3988292384) t14) h fun t15 h =>
    runD (binD T_uint32 .xor t11 t15) h fun t16 h =>
    runD (binD T_int .add t8 (.int .i64 1)) h fun t17 h =>
    (∃ m, m < n ∧ I m (AV.norms n0 h [t16, t17]) (normH n0 h)) ∧ AV.norms n0 h [c0, c1, c3] = [c0, c1, c3])
    (J3 c0 c1 t2 c3 h)
def sum_table.L1 (c : Ctx) (J1 : AV → List AObj → Prop) (K : AOut → List AObj → Prop) (lv : List AV) (h0 : List AObj) (n0 : Nat) (c0 : AV) : Prop :=
  ∃ I : Nat → List AV → List AObj → Prop, (∃ n, I n lv h0) ∧ ∀ n h, ∀ t3, I n [t3] h →
    runD (binD T_int .lss t3 (.int .i64 256)) h fun t4 h =>
    condW t4
    (joinW (fun (J2 : AV → AV → List AObj → Prop) =>
    runD (convD h T_int T_uint32 t3) h fun t7 h =>
    joinW (fun (J3 : AV → AV → AV → AV → List AObj → Prop) =>
    promV [false, false] [t7, (.int .i64 0)] h fun lv h => sum_table.L2 c J3 K (AV.norms h.length h lv) (normH h.length h) h.length (AV.norm h.length h c0) (AV.norm h.length h t3) (AV.norm h.length h t3))
    (fun t0 t1 t2 t3 h => runD (indexAddrD T_256_uint32 h t0 t1) h fun t20 h =>
    runH (storeH T_uint32 h t20 t2) h fun _ h =>
    J2 t0 t3 h))
    (fun t0 t3 h => runD (binD T_int .add t3 (.int .i64 1)) h fun t21 h =>
    (∃ m, m < n ∧ I m (AV.norms n0 h [t21]) (normH n0 h)) ∧ AV.norms n0 h [t0] = [c0]))
    (J1 c0 h)
def sum_table.H (c : Ctx) (h : List AObj) (K : AOut → List AObj → Prop) : Prop :=
  allocW T_256_uint32 h fun t0 h =>
  joinW (fun (J1 : AV → List AObj → Prop) =>
  promV [false] [(.int .i64 0)] h fun lv h => sum_table.L1 c J1 K (AV.norms h.length h lv) (normH h.length h) h.length (AV.norm h.length h t0))
  (fun t0 h => runD (fitD T_256_uint32 (loadD h t0)) h fun t22 h =>
  runH (storeH T_256_uint32 h t0 t22) h fun _ h =>
  loadRes (fitD T_256_uint32 (loadD h t0)) fun r0 => K (.ret r0) h)
def sum_word.loops : Nat → LInfo
  | 2 => ⟨[1, 7], [false, false], [0, 2], [], [], []⟩
  | _ => ⟨[], [], [], [], [], []⟩
def sum_word.L1 (c : Ctx) (J1 : AV → List AObj → Prop) (K : AOut → List AObj → Prop) (lv : List AV) (h0 : List AObj) (n0 : Nat) (c0 : AV) (c2 : AV) : Prop :=
  ∃ I : Nat → List AV → List AObj → Prop, (∃ n, I n lv h0) ∧ ∀ n h, ∀ t1, ∀ t7, I n [t1, t7] h →
    runD (binD T_int .geq t7 (.int .i64 0)) h fun t9 h =>
    condW t9
    (runD (convD h T_int T_uint64 c2) h fun t15 h =>
    runD (binD T_uint64 .shr t15 t7) h fun t17 h =>
    runD (convD h T_uint64 T_uint8 t17) h fun t18 h =>
    callW false c (.fn (.func 149) [] []) [c0, t1, t18] h (fun t19 h =>
    runD (binD T_int .sub t7 (.int .i64 8)) h fun t11 h =>
    (∃ m, m < n ∧ I m (AV.norms n0 h [t19, t11]) (normH n0 h)) ∧ AV.norms n0 h [c0, c2] = [c0, c2])
    (fun v h => K (.pan v) h))
    (J1 t1 h)
def sum_word.H (c : Ctx) (t0 : AV) (t1 : AV) (t2 : AV) (h : List AObj) (K : AOut → List AObj → Prop) : Prop :=
  joinW (fun (J1 : AV → List AObj → Prop) =>
  promV [false, false] [t1, (.int .i64 56)] h fun lv h => sum_word.L1 c J1 K (AV.norms h.length h lv) (normH h.length h) h.length (AV.norm h.length h t0) (AV.norm h.length h t2))
  (fun t1 h => K (.ret t1) h)
def sum_with.loops : Nat → LInfo
  | _ => ⟨[], [], [], [], [], []⟩
def sum_with.H (c : Ctx) (t0 : AV) (t1 : AV) (t2 : AV) (h : List AObj) (K : AOut → List AObj → Prop) : Prop :=
  runD (binD T_uint32 .shr t1 (.int .u64 8)) h fun t8 h =>
  runD (convD h T_uint32 T_uint8 t1) h fun t11 h =>
  runD (binD T_uint8 .xor t11 t2) h fun t13 h =>
  runD (nilCheckD t0) h fun t14 h =>
  runD (indexAddrD T_256_uint32 h t14 t13) h fun t15 h =>
  runD (fitD T_uint32 (loadD h t15)) h fun t16 h =>
  runD (binD T_uint32 .xor t8 t16) h fun t17 h =>
  K (.ret t17) h
theorem sum_Of.eq (F : List (FuncId × Contract)) (S : List (FuncId × Con)) (t0 : AV) (h : List AObj) (K : AOut → List AObj → Prop) : funW (ctx F S sum_Of.loops) Try.f109 [t0] h K = sum_Of.H (ctx F S sum_Of.loops) t0 h K := by kernel_rfl
theorem sum_table.eq (F : List (FuncId × Contract)) (S : List (FuncId × Con)) (h : List AObj) (K : AOut → List AObj → Prop) : funW (ctx F S sum_table.loops) Try.f134 [] h K = sum_table.H (ctx F S sum_table.loops)  h K := by kernel_rfl
theorem sum_word.eq (F : List (FuncId × Contract)) (S : List (FuncId × Con)) (t0 t1 t2 : AV) (h : List AObj) (K : AOut → List AObj → Prop) : funW (ctx F S sum_word.loops) Try.f135 [t0, t1, t2] h K = sum_word.H (ctx F S sum_word.loops) t0 t1 t2 h K := by kernel_rfl
theorem sum_with.eq (F : List (FuncId × Contract)) (S : List (FuncId × Con)) (t0 t1 t2 : AV) (h : List AObj) (K : AOut → List AObj → Prop) : funW (ctx F S sum_with.loops) Try.f149 [t0, t1, t2] h K = sum_with.H (ctx F S sum_with.loops) t0 t1 t2 h K := by kernel_rfl
theorem sum_Of.at : Try.prog.funcs[109]? = some Try.f109 := by kernel_rfl
theorem sum_Of.nm : (Try.f109.name == "runtime.NumGoroutine") = false := by kernel_rfl
theorem sum_Of.bd : Try.f109.body.isNone = false := by kernel_rfl
theorem sum_table.at : Try.prog.funcs[134]? = some Try.f134 := by kernel_rfl
theorem sum_table.nm : (Try.f134.name == "runtime.NumGoroutine") = false := by kernel_rfl
theorem sum_table.bd : Try.f134.body.isNone = false := by kernel_rfl
theorem sum_word.at : Try.prog.funcs[135]? = some Try.f135 := by kernel_rfl
theorem sum_word.nm : (Try.f135.name == "runtime.NumGoroutine") = false := by kernel_rfl
theorem sum_word.bd : Try.f135.body.isNone = false := by kernel_rfl
theorem sum_with.at : Try.prog.funcs[149]? = some Try.f149 := by kernel_rfl
theorem sum_with.nm : (Try.f149.name == "runtime.NumGoroutine") = false := by kernel_rfl
theorem sum_with.bd : Try.f149.body.isNone = false := by kernel_rfl
end Lam
set_option linter.unnecessarySimpa false
set_option linter.unusedSectionVars false
namespace Lam
open Go Go.Proofs
set_option linter.unusedVariables false
set_option linter.unusedSimpArgs false
theorem sum_table_L2 (c t3 : Int) (xs : List Int) (h : List AObj) (J : AV → AV → AV → AV → List AObj → Prop) (K : AOut → List AObj → Prop) (hh : h = [AObj.row .arr 0 (.ints .u32 xs)])
    (hJ : J (.ptr 0 []) (.int .i64 t3) (.int .u32 (bitN 8 c)) (.int .i64 t3) h) :
    sum_table.L2 (ctx [] [] sum_table.loops) J K [.int .u32 c, .int .i64 0] h 1 (.ptr 0 []) (.int .i64 t3) (.int .i64 t3) := by
  unfold sum_table.L2
  refine ⟨fun n lv h' => ∃ k : Nat, k + n = 8 ∧ lv = [.int .u32 (bitN k c), .int .i64 k] ∧ h' = h, ⟨8, 0, rfl, rfl, rfl⟩, ?_⟩
  rintro n h' t2 t8 ⟨k, hk, hlv, rfl⟩
  simp only [List.cons.injEq, and_true] at hlv
  obtain ⟨rfl, rfl⟩ := hlv
  subst hh
  simp only [go_sem, Nat.reduceLT]
  refine ⟨fun hlt => ⟨by decide, n - 1, by omega, k + 1, by omega, ?_⟩, fun hge => ?_⟩
  · rw [w64 (by omega) (by omega)]
    rfl
  · have : k = 8 := by omega
    subst this; exact hJ

theorem sum_table_L1 (J : AV → List AObj → Prop) (K : AOut → List AObj → Prop) (hJ : J (.ptr 0 []) [AObj.row .arr 0 (.ints .u32 tabL)]) :
    sum_table.L1 (ctx [] [] sum_table.loops) J K [.int .i64 0] [AObj.row .arr 0 (.ints .u32 (List.replicate 256 0))] 1 (.ptr 0 []) := by
  unfold sum_table.L1
  refine ⟨fun n lv h' => ∃ k : Nat, k + n = 256 ∧ lv = [.int .i64 k] ∧ h' = [AObj.row .arr 0 (.ints .u32 ((List.range k).map tabE ++ List.replicate n 0))], ⟨256, 0, rfl, rfl, rfl⟩, ?_⟩
  rintro n h' t3 ⟨k, hk, hlv, rfl⟩
  simp only [List.cons.injEq, and_true] at hlv
  subst hlv
  simp only [go_sem, Nat.reduceLT]
  refine ⟨fun hlt => ?_, fun hge => ?_⟩
  · simp only [joinW_eq]
    apply sum_table_L2 _ _ _ _ _ _ rfl
    have hlen : ((List.range k).map tabE ++ List.replicate n 0).length = 256 := by simp; omega
    simp only [go_sem, Nat.reduceLT, hlen, Int.toNat_natCast]
    refine ⟨by omega, by omega, n - 1, by omega, k + 1, by omega, ?_, ?_⟩
    · rw [w64 (by omega) (by omega)]; rfl
    · obtain ⟨m, rfl⟩ : ∃ m, n = m + 1 := ⟨n - 1, by omega⟩
      simp [List.range_succ, List.replicate_succ, tabE]
  · have hn : n = 0 := by omega
    have hk : k = 256 := by omega
    subst hn hk
    simpa [tabL] using hJ

theorem sum_table_vc : sum_table.H (ctx [] [] sum_table.loops) [] (Post false (.arr (.ints .u32 tabL)) []) := by
  unfold sum_table.H
  simp only [go_sem, Nat.reduceLT]
  simp only [joinW_eq]
  apply sum_table_L1
  have : tabL.length = 256 := by simp [tabL]
  simp only [go_sem, this]
  exact post_val rfl rfl

def sum_table.C : Contract
  | [] => some (false, pD True (.arr (.ints .u32 tabL)))
  | _ => none
theorem sum_table.spec : FSpec Try.prog 134 sum_table.C := by
  refine FSpec.of (ctx_ok (F := []) (S := []) (by simp) (by simp) sum_table.loops) sum_table.at sum_table.nm sum_table.bd ?_
  intro vs b S v news e hS
  unfold sum_table.C at e
  split at e
  rotate_left
  · cases e
  rw [sum_table.eq]
  cases e
  exact sum_table_vc
def sum_with.K : Con := fun args h K => match args with
  | [a0, a1, a2] => sum_with.H (ctx [] [] sum_with.loops) a0 a1 a2 h K
  | _ => False
theorem sum_with.spec : SSpec Try.prog 149 sum_with.K := by
  refine SSpec.of (ctx_ok (F := []) (S := []) (by simp) (by simp) sum_with.loops) sum_with.at sum_with.nm sum_with.bd ?_
  intro args h K hC
  unfold sum_with.K at hC
  split at hC
  · rw [sum_with.eq]; exact hC
  · exact hC.elim
theorem sum_with_vc (t : List Int) (ht : t.length = 256) (c b : Int) (h : List AObj) (K : AOut → List AObj → Prop) (id : Nat) (hid : h[id]? = some (.row .arr 0 (.ints .u32 t))) (hK : K (.ret (.int .u32 (withS t c b))) h) :
    sum_with.K [.ptr id [], .int .u32 c, .int .u8 b] h K := by
  unfold sum_with.K
  simp only
  unfold sum_with.H
  simp only [go_sem, hid, ht]
  have hr : 0 ≤ xorI .u8 (IntKind.u8.wrap c) b ∧ xorI .u8 (IntKind.u8.wrap c) b < 256 := u8_range _
  exact ⟨by decide, hr, (Int.toNat_lt hr.1).2 hr.2, hK⟩

def sum_word.K : Con := fun args h K => match args with
  | [a0, a1, a2] => sum_word.H (ctx [] [(149, sum_with.K)] sum_word.loops) a0 a1 a2 h K
  | _ => False
theorem sum_word.spec : SSpec Try.prog 135 sum_word.K := by
  refine SSpec.of (ctx_ok (F := []) (S := [(149, sum_with.K)]) (by simp) (by simpa using sum_with.spec) sum_word.loops) sum_word.at sum_word.nm sum_word.bd ?_
  intro args h K hC
  unfold sum_word.K at hC
  split at hC
  · rw [sum_word.eq]; exact hC
  · exact hC.elim
theorem sum_word_vc (t : List Int) (ht : t.length = 256) (c w : Int) (h : List AObj) (K : AOut → List AObj → Prop) (hh : h = [.row .arr 0 (.ints .u32 t)]) (hK : K (.ret (.int .u32 (wordS t c w))) h) :
    sum_word.K [.ptr 0 [], .int .u32 c, .int .i64 w] h K := by
  unfold sum_word.K
  simp only
  unfold sum_word.H
  subst hh
  simp only [joinW_eq, go_sem, Nat.reduceLT]
  unfold sum_word.L1
  refine ⟨fun n lv h' => ∃ k : Nat, k + n = 8 ∧ lv = [.int .u32 (wordN t w k c), .int .i64 (56 - 8 * k)] ∧ h' = [.row .arr 0 (.ints .u32 t)], ⟨8, 0, rfl, rfl, rfl⟩, ?_⟩
  rintro n h' t1 t7 ⟨k, hk, hlv, rfl⟩
  simp only [List.cons.injEq, and_true] at hlv
  obtain ⟨rfl, rfl⟩ := hlv
  simp only [go_sem, Nat.reduceLT, Nat.reduceEqDiff]
  refine ⟨fun hlt => ?_, fun hge => ?_⟩
  · refine ⟨hlt, ?_⟩
    apply sum_with_vc t ht _ _ _ _ _ rfl
    simp only [go_sem, Nat.reduceLT]
    refine ⟨n - 1, by omega, k + 1, by omega, ?_⟩
    rw [w64 (by omega) (by omega)]
    simp only [wordN]
    congr 3
    omega
  · have : k = 8 := by omega
    subst this; exact hK

def sum_Of.C : Contract
  | [.sl _ (.ints .i64 l)] => some (false, pD (roomy l.length) (.int .i64 (sumOf l)))
  | _ => none
theorem sum_Of.spec : FSpec Try.prog 109 sum_Of.C := by
  refine FSpec.of (ctx_ok (F := [(134, sum_table.C)]) (S := [(135, sum_word.K)]) (by simpa using sum_table.spec) (by simpa using sum_word.spec) sum_Of.loops) sum_Of.at sum_Of.nm sum_Of.bd ?_
  intro vs b S v news e hS
  unfold sum_Of.C at e
  split at e
  rotate_left
  · cases e
  rw [sum_Of.eq]
  rename_i x l
  cases e
  unfold roomy at hS
  unfold sum_Of.H
  have htl : tabL.length = 256 := tabL_len
  simp only [go_sem, Nat.reduceEqDiff, Nat.reduceLT, sum_table.C, htl, List.length_replicate, joinW_eq]
  unfold sum_Of.L1
  refine ⟨fun n lv h' => ∃ k : Nat, k + n = l.length ∧ lv = [.int .u32 ((l.take k).foldl (wordS tabL) 4294967295), .int .i64 k] ∧ h' = [.row .arr 0 (.ints .u32 tabL)], ⟨l.length, 0, by omega, rfl, rfl⟩, ?_⟩
  rintro n h' t4 t10 ⟨k, hk, hlv, rfl⟩
  simp only [List.cons.injEq, and_true] at hlv
  obtain ⟨rfl, rfl⟩ := hlv
  simp only [go_sem, Nat.reduceLT, Nat.reduceEqDiff]
  refine ⟨fun hlt => ?_, fun hge => ?_⟩
  · refine ⟨by omega, ?_⟩
    apply sum_word_vc tabL htl _ _ _ _ rfl
    simp only [go_sem, Nat.reduceLT]
    refine ⟨n - 1, by omega, k + 1, by omega, ?_⟩
    rw [w64 (by omega) (by omega)]
    have hkl : k < l.length := by omega
    have : l.take (k + 1) = l.take k ++ [l.getD k 0] := by
      rw [List.take_add_one, List.getElem?_eq_getElem hkl, List.getD_eq_getElem?_getD, List.getElem?_eq_getElem hkl]; rfl
    rw [this, List.foldl_append]
    rfl
  · have : k = l.length := by omega
    subst this
    rw [List.take_length]
    exact post_val rfl rfl
end Lam
namespace Lam
open Go Go.Proofs
set_option linter.unusedVariables false
set_option linter.unnecessarySimpa false
set_option linter.unusedSimpArgs false
def pmem_New.C : Contract
  | [.sl _ (.ints .i64 l)] => some (false, pD (roomy l.length) (newM l))
  | _ => none
set_option maxRecDepth 20000 in
theorem pmem_New.spec : FSpec Try.prog 40 pmem_New.C := by
  refine FSpec.of (ctx_ok (F := [(78, pmem_sized.C), (64, slices_Clone_sl_int_int.C)]) (S := []) (by simpa using ⟨pmem_sized.spec, slices_Clone_sl_int_int.spec⟩) (by simp) pmem_New.loops) pmem_New.at pmem_New.nm pmem_New.bd ?_
  intro vs b S v news e hS
  unfold pmem_New.C at e
  split at e
  rotate_left
  · cases e
  cases e
  rw [pmem_New.eq]
  unfold pmem_New.H
  simp (maxSteps := 4000000) only [go_sem, Nat.reduceEqDiff, Nat.reduceLT, Nat.reduceAdd, Nat.reduceSub, Nat.reduceLeDiff, List.reduceReplicate, Int.reduceToNat, pmem_sized.C, slices_Clone_sl_int_int.C]
  rename_i l
  unfold roomy at hS
  refine ⟨fun hb => ?_, fun hb => ?_⟩
  · unfold newM; rw [hb]; exact post_val rfl rfl
  · refine ⟨hS, hS, ?_⟩
    unfold newM; simp only [hb, if_true]
    refine post_val ?_ rfl
    simp only [go_sem, Nat.reduceEqDiff, Nat.reduceLT, Nat.reduceAdd, Nat.reduceSub, Nat.reduceLeDiff, List.reduceReplicate, Int.reduceToNat, memV, List.take_length]
end Lam
namespace Lam
open Go Go.Proofs
set_option linter.unusedVariables false
def micro_Do.loops : Nat → LInfo
  | _ => ⟨[], [], [], [], [], []⟩
def micro_Do.H (c : Ctx) (t0 : AV) (t1 : AV) (h : List AObj) (K : AOut → List AObj → Prop) : Prop :=
  boxW T_api_Mem t0 h fun t2 h =>
  boxW T_api_Micro t1 h fun t3 h =>
  allocW T_api_Mem h fun t4 h =>
  runD (fitD T_api_Mem (loadD h t2)) h fun t6 h =>
  runD (fitD T_api_Micro (loadD h t3)) h fun t7 h =>
  runD (buildSliceD T_sl_api_Micro 1 [(0, t7)] h.length) h fun t8 h =>
  callW false c (.fn (.func 108) [] []) [t6, t8] h (fun t9 h =>
  runD (extractD t9 0) h fun t10 h =>
  runD (extractD t9 1) h fun t11 h =>
  runH (storeH T_api_Mem h t4 t10) h fun _ h =>
  loadRes (fitD T_api_Mem (loadD h t4)) fun r0 => K (.ret (.tup [r0, t11])) h)
  (fun v h => K (.pan v) h)
def micro_Check.loops : Nat → LInfo
  | 1 => ⟨[], [], [], [(3, none), (2, some [8, 10]), (2, none), (3, some [12, 15])], [], []⟩
  | 2 => ⟨[], [], [], [(2, none), (4, some [18, 22])], [], []⟩
  | _ => ⟨[], [], [], [], [], []⟩
def micro_Check.H (c : Ctx) (t0 : AV) (t1 : AV) (h : List AObj) (K : AOut → List AObj → Prop) : Prop :=
  boxW T_int t1 h fun t3 h =>
  runD (fitD T_int (loadD h t3)) h fun t6 h =>
  runD (binD T_int .geq t6 (.int .i64 0)) h fun t7 h =>
  joinW (fun (J1 : AV → AV → List AObj → Prop) =>
  guardW t7 true
  (runD (fitD T_int (loadD h t3)) h fun t9 h =>
    runD (binD T_int .leq t9 (.int .i64 4096)) h fun t10 h =>
    J1 (.bool true) t10 h)
  (J1 (.bool false) .und h))
  (fun t8 t10 h => runD (pickD t8 t10 (.bool false)) h fun t11 h =>
  joinW (fun (J2 : AV → AV → List AObj → Prop) =>
  guardW t11 true
  (runD (fitD T_int (loadD h t3)) h fun t13 h =>
    runD (binD T_int .rem t13 (.int .i64 8)) h fun t14 h =>
    runD (binD T_int .eql t14 (.int .i64 0)) h fun t15 h =>
    J2 (.bool true) t15 h)
  (J2 (.bool false) .und h))
  (fun t12 t15 h => runD (pickD t12 t15 (.bool false)) h fun t16 h =>
  joinW (fun (J3 : AV → AV → List AObj → Prop) =>
  guardW t16 true
  (callW false c (.fn (.func 129) [] []) [t0, (.fn (.func 130) [] [t3])] h (fun t21 h =>
    runD (unD .not t21) h fun t22 h =>
    J3 (.bool true) t22 h)
    (fun v h => K (.pan v) h))
  (J3 (.bool false) .und h))
  (fun t18 t22 h => runD (pickD t18 t22 (.bool false)) h fun t23 h =>
  K (.ret t23) h)))
def micro_Run.loops : Nat → LInfo
  | _ => ⟨[], [], [], [], [], []⟩
def micro_Run.H (c : Ctx) (t0 : AV) (t1 : AV) (h : List AObj) (K : AOut → List AObj → Prop) : Prop :=
  boxW T_api_Mem t0 h fun t2 h =>
  allocW T_api_Mem h fun t4 h =>
  runD (fitD T_api_Mem (loadD h t2)) h fun t6 h =>
  callW false c (.fn (.func 132) [] []) [t6, t1] h (fun t8 h =>
  runD (unD .not t8) h fun t9 h =>
  condW t9
  (runD (fitD T_api_Mem (loadD h t2)) h fun t10 h =>
    runH (storeH T_api_Mem h t4 t10) h fun _ h =>
    loadRes (fitD T_api_Mem (loadD h t4)) fun r0 => K (.ret (.tup [r0, (.int .i64 40)])) h)
  (runD (fitD T_api_Mem (loadD h t2)) h fun t11 h =>
  runD (lenD T_sl_api_Micro h t1) h fun t14 h =>
  callW false c (.fn (.func 133) [] []) [t11, t1, t14] h (fun t15 h =>
  runH (storeH T_api_Mem h t4 t15) h fun _ h =>
  loadRes (fitD T_api_Mem (loadD h t4)) fun r0 => K (.ret (.tup [r0, (.int .i64 0)])) h)
  (fun v h => K (.pan v) h)))
  (fun v h => K (.pan v) h)
def micro_Check_1.loops : Nat → LInfo
  | _ => ⟨[], [], [], [], [], []⟩
def micro_Check_1.H (c : Ctx) (t0 : AV) (t1 : AV) (h : List AObj) (K : AOut → List AObj → Prop) : Prop :=
  boxW T_api_Micro t0 h fun t2 h =>
  runD (fitD T_api_Micro (loadD h t2)) h fun t4 h =>
  runD (fitD T_int (loadD h t1)) h fun t5 h =>
  callW false c (.fn (.func 131) [] []) [t4, t5] h (fun t6 h =>
  runD (unD .not t6) h fun t7 h =>
  K (.ret t7) h)
  (fun v h => K (.pan v) h)
def micro_may.loops : Nat → LInfo
  | 2 => ⟨[], [], [], [(4, none), (7, some [14, 21]), (2, none), (8, some [23, 31])], [], []⟩
  | _ => ⟨[], [], [], [], [], []⟩
def micro_may.H (c : Ctx) (t0 : AV) (t1 : AV) (h : List AObj) (K : AOut → List AObj → Prop) : Prop :=
  boxW T_api_Micro t0 h fun t2 h =>
  runD (makeMapD T_map_int_int h.length) h fun t6 h =>
  runH (mapSetH T_map_int_int h t6 (.int .i64 1) t1) h fun _ h =>
  runD (binD T_int .quo t1 (.int .i64 8)) h fun t9 h =>
  runH (mapSetH T_map_int_int h t6 (.int .i64 2) t9) h fun _ h =>
  runD (fieldAddrD T_api_Micro t2 1) h fun t11 h =>
  runD (fitD T_int (loadD h t11)) h fun t12 h =>
  runD (binD T_int .geq t12 (.int .i64 0)) h fun t13 h =>
  joinW (fun (J1 : AV → AV → List AObj → Prop) =>
  guardW t13 true
  (runD (fieldAddrD T_api_Micro t2 1) h fun t15 h =>
    runD (fitD T_int (loadD h t15)) h fun t16 h =>
    runD (fieldAddrD T_api_Micro t2 0) h fun t18 h =>
    runD (fitD T_int (loadD h t18)) h fun t19 h =>
    runD (lookupD T_map_int_int h t6 t19) h fun t20 h =>
    runD (binD T_int .lss t16 t20) h fun t21 h =>
    J1 (.bool true) t21 h)
  (J1 (.bool false) .und h))
  (fun t14 t21 h => runD (pickD t14 t21 (.bool false)) h fun t22 h =>
  joinW (fun (J2 : AV → AV → List AObj → Prop) =>
  guardW t22 true
  (runD (fieldAddrD T_api_Micro t2 0) h fun t24 h =>
    runD (fitD T_int (loadD h t24)) h fun t25 h =>
    runD (binD T_int .eql t25 (.int .i64 1)) h fun t26 h =>
    joinW (fun (J3 : AV → AV → List AObj → Prop) =>
    guardW t26 false
    (runD (fieldAddrD T_api_Micro t2 2) h fun t28 h =>
      runD (fitD T_int (loadD h t28)) h fun t29 h =>
      runD (binD T_int .eql t29 (.int .i64 0)) h fun t30 h =>
      J3 (.bool false) t30 h)
    (J3 (.bool true) .und h))
    (fun t27 t30 h => runD (pickD t27 (.bool true) t30) h fun t31 h =>
    J2 (.bool true) t31 h))
  (J2 (.bool false) .und h))
  (fun t23 t31 h => runD (pickD t23 t31 (.bool false)) h fun t32 h =>
  K (.ret t32) h))
def micro_sound.loops : Nat → LInfo
  | 1 => ⟨[], [], [], [(3, none), (5, some [7, 12])], [], []⟩
  | _ => ⟨[], [], [], [], [], []⟩
def micro_sound.H (c : Ctx) (t0 : AV) (t1 : AV) (h : List AObj) (K : AOut → List AObj → Prop) : Prop :=
  boxW T_api_Mem t0 h fun t2 h =>
  runD (fitD T_api_Mem (loadD h t2)) h fun t5 h =>
  callW false c (.fn (.func 147) [] []) [t5] h (fun t6 h =>
  joinW (fun (J1 : AV → AV → List AObj → Prop) =>
  guardW t6 true
  (runD (fieldAddrD T_api_Mem t2 0) h fun t9 h =>
    runD (fitD T_sl_int (loadD h t9)) h fun t10 h =>
    runD (lenD T_sl_int h t10) h fun t11 h =>
    callW false c (.fn (.func 107) [] []) [t1, t11] h (fun t12 h =>
    J1 (.bool true) t12 h)
    (fun v h => K (.pan v) h))
  (J1 (.bool false) .und h))
  (fun t7 t12 h => runD (pickD t7 t12 (.bool false)) h fun t13 h =>
  K (.ret t13) h))
  (fun v h => K (.pan v) h)
def micro_first.loops : Nat → LInfo
  | 4 => ⟨[15], [false], [1, 6, 7, 8, 14], [], [], []⟩
  | _ => ⟨[], [], [], [], [], []⟩
def micro_first.L1 (c : Ctx) (J1 : AV → AV → List AObj → Prop) (K : AOut → List AObj → Prop) (lv : List AV) (h0 : List AObj) (n0 : Nat) (c1 : AV) (c6 : AV) (c7 : AV) (c8 : AV) (c14 : AV) : Prop :=
  ∃ I : Nat → List AV → List AObj → Prop, (∃ n, I n lv h0) ∧ ∀ n h, ∀ t15, I n [t15] h →
    runD (binD T_int .lss t15 c14) h fun t16 h =>
    condW t16
    (runD (indexAddrD T_sl_api_Micro h c1 t15) h fun t21 h =>
    runD (fieldAddrD T_api_Micro t21 0) h fun t22 h =>
    runD (fitD T_int (loadD h t22)) h fun t23 h =>
    runD (lookupD T_map_int_func_p_micro_doer_api_Micro h c8 t23) h fun t24 h =>
    runD (indexAddrD T_sl_api_Micro h c1 t15) h fun t28 h =>
    runD (fitD T_api_Micro (loadD h t28)) h fun t29 h =>
    callW false c t24 [c7, t29] h (fun t30 h =>
    runD (binD T_int .add t15 (.int .i64 1)) h fun t31 h =>
    (∃ m, m < n ∧ I m (AV.norms n0 h [t31]) (normH n0 h)) ∧ AV.norms n0 h [c1, c6, c7, c8, c14] = [c1, c6, c7, c8, c14])
    (fun v h => K (.pan v) h))
    (J1 c6 c7 h)
def micro_first.H (c : Ctx) (t0 : AV) (t1 : AV) (t2 : AV) (h : List AObj) (K : AOut → List AObj → Prop) : Prop :=
  boxW T_api_Mem t0 h fun t3 h =>
  allocW T_api_Mem h fun t6 h =>
  runD (fitD T_api_Mem (loadD h t3)) h fun t10 h =>
  runD (buildD T_micro_doer [(0, t10)]) h fun t11 h =>
  boxW T_micro_doer t11 h fun t12 h =>
  callW false c (.fn (.func 148) [] []) [] h (fun t13 h =>
  joinW (fun (J1 : AV → AV → List AObj → Prop) =>
  promV [false] [(.int .i64 0)] h fun lv h => micro_first.L1 c J1 K (AV.norms h.length h lv) (normH h.length h) h.length (AV.norm h.length h t1) (AV.norm h.length h t6) (AV.norm h.length h t12) (AV.norm h.length h t13) (AV.norm h.length h t2))
  (fun t6 t7 h => runD (nilCheckD t7) h fun t33 h =>
  runD (fieldAddrD T_micro_doer t33 0) h fun t34 h =>
  runD (fitD T_api_Mem (loadD h t34)) h fun t35 h =>
  runH (storeH T_api_Mem h t6 t35) h fun _ h =>
  loadRes (fitD T_api_Mem (loadD h t6)) fun r0 => K (.ret r0) h))
  (fun v h => K (.pan v) h)
def micro_kinds.loops : Nat → LInfo
  | _ => ⟨[], [], [], [], [], []⟩
def micro_kinds.H (c : Ctx) (h : List AObj) (K : AOut → List AObj → Prop) : Prop :=
  runD (makeMapD T_map_int_func_p_micro_doer_api_Micro h.length) h fun t1 h =>
  runH (mapSetH T_map_int_func_p_micro_doer_api_Micro h t1 (.int .i64 1) (.fn (.func 152) [] [])) h fun _ h =>
  runH (mapSetH T_map_int_func_p_micro_doer_api_Micro h t1 (.int .i64 2) (.fn (.func 153) [] [])) h fun _ h =>
  K (.ret t1) h
def micro_doer_store.loops : Nat → LInfo
  | _ => ⟨[], [], [], [], [], []⟩
def micro_doer_store.H (c : Ctx) (t0 : AV) (t1 : AV) (h : List AObj) (K : AOut → List AObj → Prop) : Prop :=
  boxW T_api_Micro t1 h fun t3 h =>
  runD (nilCheckD t0) h fun t7 h =>
  runD (fieldAddrD T_micro_doer t7 0) h fun t8 h =>
  runD (fitD T_api_Mem (loadD h t8)) h fun t9 h =>
  runD (fieldAddrD T_api_Micro t3 1) h fun t10 h =>
  runD (fitD T_int (loadD h t10)) h fun t11 h =>
  runD (fieldAddrD T_api_Micro t3 2) h fun t12 h =>
  runD (fitD T_int (loadD h t12)) h fun t13 h =>
  callW false c.noS (.fn (.func 156) [] []) [t9, t11, t13] h (fun t14 h =>
  runD (extractD t14 0) h fun t15 h =>
  runD (extractD t14 1) h fun t16 h =>
  runD (nilCheckD t0) h fun t17 h =>
  runD (fieldAddrD T_micro_doer t17 0) h fun t18 h =>
  runH (storeH T_api_Mem h t18 t15) h fun _ h =>
  K (.ret (.tup [])) h)
  (fun _ _ => False)
def micro_doer_persist.loops : Nat → LInfo
  | _ => ⟨[], [], [], [], [], []⟩
def micro_doer_persist.H (c : Ctx) (t0 : AV) (t1 : AV) (h : List AObj) (K : AOut → List AObj → Prop) : Prop :=
  boxW T_api_Micro t1 h fun t3 h =>
  runD (nilCheckD t0) h fun t7 h =>
  runD (fieldAddrD T_micro_doer t7 0) h fun t8 h =>
  runD (fitD T_api_Mem (loadD h t8)) h fun t9 h =>
  runD (fieldAddrD T_api_Micro t3 1) h fun t10 h =>
  runD (fitD T_int (loadD h t10)) h fun t11 h =>
  callW false c.noS (.fn (.func 157) [] []) [t9, t11] h (fun t12 h =>
  runD (extractD t12 0) h fun t13 h =>
  runD (extractD t12 1) h fun t14 h =>
  runD (nilCheckD t0) h fun t15 h =>
  runD (fieldAddrD T_micro_doer t15 0) h fun t16 h =>
  runH (storeH T_api_Mem h t16 t13) h fun _ h =>
  runD (nilCheckD t0) h fun t20 h =>
  runD (fieldAddrD T_micro_doer t20 0) h fun t21 h =>
  runD (fitD T_api_Mem (loadD h t21)) h fun t22 h =>
  callW false c (.fn (.func 158) [] []) [t22] h (fun t23 h =>
  runD (extractD t23 0) h fun t24 h =>
  runD (extractD t23 1) h fun t25 h =>
  runD (nilCheckD t0) h fun t26 h =>
  runD (fieldAddrD T_micro_doer t26 0) h fun t27 h =>
  runH (storeH T_api_Mem h t27 t24) h fun _ h =>
  K (.ret (.tup [])) h)
  (fun v h => K (.pan v) h))
  (fun _ _ => False)
theorem micro_Do.eq (F : List (FuncId × Contract)) (S : List (FuncId × Con)) (t0 t1 : AV) (h : List AObj) (K : AOut → List AObj → Prop) : funW (ctx F S micro_Do.loops) Try.f79 [t0, t1] h K = micro_Do.H (ctx F S micro_Do.loops) t0 t1 h K := by kernel_rfl
theorem micro_Check.eq (F : List (FuncId × Contract)) (S : List (FuncId × Con)) (t0 t1 : AV) (h : List AObj) (K : AOut → List AObj → Prop) : funW (ctx F S micro_Check.loops) Try.f107 [t0, t1] h K = micro_Check.H (ctx F S micro_Check.loops) t0 t1 h K := by kernel_rfl
theorem micro_Run.eq (F : List (FuncId × Contract)) (S : List (FuncId × Con)) (t0 t1 : AV) (h : List AObj) (K : AOut → List AObj → Prop) : funW (ctx F S micro_Run.loops) Try.f108 [t0, t1] h K = micro_Run.H (ctx F S micro_Run.loops) t0 t1 h K := by kernel_rfl
theorem micro_Check_1.eq (F : List (FuncId × Contract)) (S : List (FuncId × Con)) (t0 t1 : AV) (h : List AObj) (K : AOut → List AObj → Prop) : funW (ctx F S micro_Check_1.loops) Try.f130 [t0, t1] h K = micro_Check_1.H (ctx F S micro_Check_1.loops) t0 t1 h K := by kernel_rfl
theorem micro_may.eq (F : List (FuncId × Contract)) (S : List (FuncId × Con)) (t0 t1 : AV) (h : List AObj) (K : AOut → List AObj → Prop) : funW (ctx F S micro_may.loops) Try.f131 [t0, t1] h K = micro_may.H (ctx F S micro_may.loops) t0 t1 h K := by kernel_rfl
theorem micro_sound.eq (F : List (FuncId × Contract)) (S : List (FuncId × Con)) (t0 t1 : AV) (h : List AObj) (K : AOut → List AObj → Prop) : funW (ctx F S micro_sound.loops) Try.f132 [t0, t1] h K = micro_sound.H (ctx F S micro_sound.loops) t0 t1 h K := by kernel_rfl
theorem micro_first.eq (F : List (FuncId × Contract)) (S : List (FuncId × Con)) (t0 t1 t2 : AV) (h : List AObj) (K : AOut → List AObj → Prop) : funW (ctx F S micro_first.loops) Try.f133 [t0, t1, t2] h K = micro_first.H (ctx F S micro_first.loops) t0 t1 t2 h K := by kernel_rfl
theorem micro_kinds.eq (F : List (FuncId × Contract)) (S : List (FuncId × Con)) (h : List AObj) (K : AOut → List AObj → Prop) : funW (ctx F S micro_kinds.loops) Try.f148 [] h K = micro_kinds.H (ctx F S micro_kinds.loops)  h K := by kernel_rfl
theorem micro_doer_store.eq (F : List (FuncId × Contract)) (S : List (FuncId × Con)) (t0 t1 : AV) (h : List AObj) (K : AOut → List AObj → Prop) : funW (ctx F S micro_doer_store.loops) Try.f152 [t0, t1] h K = micro_doer_store.H (ctx F S micro_doer_store.loops) t0 t1 h K := by kernel_rfl
theorem micro_doer_persist.eq (F : List (FuncId × Contract)) (S : List (FuncId × Con)) (t0 t1 : AV) (h : List AObj) (K : AOut → List AObj → Prop) : funW (ctx F S micro_doer_persist.loops) Try.f153 [t0, t1] h K = micro_doer_persist.H (ctx F S micro_doer_persist.loops) t0 t1 h K := by kernel_rfl
theorem micro_Do.at : Try.prog.funcs[79]? = some Try.f79 := by kernel_rfl
theorem micro_Do.nm : (Try.f79.name == "runtime.NumGoroutine") = false := by kernel_rfl
theorem micro_Do.bd : Try.f79.body.isNone = false := by kernel_rfl
theorem micro_Check.at : Try.prog.funcs[107]? = some Try.f107 := by kernel_rfl
theorem micro_Check.nm : (Try.f107.name == "runtime.NumGoroutine") = false := by kernel_rfl
theorem micro_Check.bd : Try.f107.body.isNone = false := by kernel_rfl
theorem micro_Run.at : Try.prog.funcs[108]? = some Try.f108 := by kernel_rfl
theorem micro_Run.nm : (Try.f108.name == "runtime.NumGoroutine") = false := by kernel_rfl
theorem micro_Run.bd : Try.f108.body.isNone = false := by kernel_rfl
theorem micro_Check_1.at : Try.prog.funcs[130]? = some Try.f130 := by kernel_rfl
theorem micro_Check_1.nm : (Try.f130.name == "runtime.NumGoroutine") = false := by kernel_rfl
theorem micro_Check_1.bd : Try.f130.body.isNone = false := by kernel_rfl
theorem micro_may.at : Try.prog.funcs[131]? = some Try.f131 := by kernel_rfl
theorem micro_may.nm : (Try.f131.name == "runtime.NumGoroutine") = false := by kernel_rfl
theorem micro_may.bd : Try.f131.body.isNone = false := by kernel_rfl
theorem micro_sound.at : Try.prog.funcs[132]? = some Try.f132 := by kernel_rfl
theorem micro_sound.nm : (Try.f132.name == "runtime.NumGoroutine") = false := by kernel_rfl
theorem micro_sound.bd : Try.f132.body.isNone = false := by kernel_rfl
theorem micro_first.at : Try.prog.funcs[133]? = some Try.f133 := by kernel_rfl
theorem micro_first.nm : (Try.f133.name == "runtime.NumGoroutine") = false := by kernel_rfl
theorem micro_first.bd : Try.f133.body.isNone = false := by kernel_rfl
theorem micro_kinds.at : Try.prog.funcs[148]? = some Try.f148 := by kernel_rfl
theorem micro_kinds.nm : (Try.f148.name == "runtime.NumGoroutine") = false := by kernel_rfl
theorem micro_kinds.bd : Try.f148.body.isNone = false := by kernel_rfl
theorem micro_doer_store.at : Try.prog.funcs[152]? = some Try.f152 := by kernel_rfl
theorem micro_doer_store.nm : (Try.f152.name == "runtime.NumGoroutine") = false := by kernel_rfl
theorem micro_doer_store.bd : Try.f152.body.isNone = false := by kernel_rfl
theorem micro_doer_persist.at : Try.prog.funcs[153]? = some Try.f153 := by kernel_rfl
theorem micro_doer_persist.nm : (Try.f153.name == "runtime.NumGoroutine") = false := by kernel_rfl
theorem micro_doer_persist.bd : Try.f153.body.isNone = false := by kernel_rfl
end Lam
