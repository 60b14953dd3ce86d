/- What functions of the program come to, each proved from its code. -/
import Derived.Test.YtdnhjeoacanbcabLm5
namespace Lam
open Go Go.Proofs
set_option linter.unusedVariables false
set_option linter.unnecessarySimpa false
set_option linter.unusedSimpArgs false
theorem wordsV_ok {n : Nd} (h : ndB n = true) : wordsV n = .tup [.sl false (.ints .i64 (wordsNd n)), .int .i64 0] := by unfold wordsV; rw [if_pos h]
theorem wordsV_no {n : Nd} (h : ndB n = false) : wordsV n = .tup [.sl false (.ints .i64 []), .int .i64 90] := by unfold wordsV; rw [h]; rfl
theorem wordsV_ex (n : Nd) : ∃ l e, wordsV n = .tup [.sl false (.ints .i64 l), .int .i64 e] ∧ l.length ≤ 16 := by
  cases h : ndB n with
  | true => exact ⟨_, _, wordsV_ok h, by rw [words_len (nd_iff.1 h)]; exact Nat.le_refl _⟩
  | false => exact ⟨_, _, wordsV_no h, Nat.zero_le _⟩
theorem readV_cases (words : List Int) (k : Int) : (∃ e, e ≠ 0 ∧ readV words k = .tup [zeroNd.V, .int .i64 e]) ∨ (∃ y : Nd, y.ok ∧ 0 ≤ k ∧ 16 * k + 16 ≤ (words.length : Int) ∧ wordsNd y = blockAt words k.toNat ∧ readV words k = .tup [y.V, .int .i64 0]) := by
  unfold readV
  by_cases h : (decide (k < 0) || decide (((words.length / 16 : Nat) : Int) ≤ k)) = true
  · rw [if_pos h]; exact .inl ⟨1, by decide, rfl⟩
  · rw [if_neg h]
    simp only [Bool.or_eq_true, decide_eq_true_eq, not_or] at h
    cases hr : readN (blockAt words k.toNat) with
    | none => exact .inl ⟨90, by decide, rfl⟩
    | some y =>
      obtain ⟨h1, h2⟩ := readN_some hr
      exact .inr ⟨y, h1, by omega, by omega, h2, rfl⟩
theorem readV_words {n : Nd} (h : n.ok) : readV (wordsNd n) 0 = .tup [n.V, .int .i64 0] := by
  unfold readV
  have hl := words_len h
  rw [hl, if_neg (by decide)]
  have : blockAt (wordsNd n) (0 : Int).toNat = wordsNd n := by
    unfold blockAt; rw [show 16 * (0 : Int).toNat = 0 from rfl, List.drop_zero]; exact List.take_of_length_le (by omega)
  rw [this, readN_ok h]
theorem readV_nil : readV [] 0 = .tup [zeroNd.V, .int .i64 1] := rfl
theorem wordsV_zero : wordsV ⟨zeroNd.level, zeroNd.turn, zeroNd.next, zeroNd.low, zeroNd.slots⟩ = .tup [.sl false (.ints .i64 (wordsNd zeroNd)), .int .i64 0] := wordsV_ok (by decide)
end Lam
namespace Lam
open Go Go.Proofs
set_option linter.unusedVariables false
def lamplighterlaw09_NodeTurns.loops : Nat → LInfo
  | 3 => ⟨[], [], [], [(5, none), (3, some [42, 45]), (2, none), (2, some [47, 49])], []⟩
  | 12 => ⟨[], [], [], [(3, none), (2, some [100, 102]), (2, none), (2, some [104, 106]), (2, none), (2, some [108, 110]), (2, none), (2, some [112, 114])], []⟩
  | 17 => ⟨[], [], [], [(5, none), (6, some [127, 133])], []⟩
  | 18 => ⟨[], [], [], [(6, none), (5, some [140, 145]), (2, none), (5, some [147, 152]), (2, none), (5, some [154, 159])], []⟩
  | 21 => ⟨[], [], [], [(2, none), (1, some [170, 171]), (2, none), (1, some [173, 174]), (2, none), (3, some [176, 179]), (2, none), (12, some [181, 193])], []⟩
  | _ => ⟨[], [], [], [], []⟩
def lamplighterlaw09_NodeTurns.H (c : Ctx) (t0 : AV) (t1 : AV) (t2 : AV) (t3 : AV) (t4 : AV) (h : List AObj) (K : AOut → List AObj → Prop) : Prop :=
  boxW T_api_Node t0 h fun t5 h =>
  callW c (.fn (.func 29) [] []) [] h (fun t32 h =>
  runD (fitD T_api_Node (loadD h t5)) h fun t34 h =>
  callW c (.fn (.func 30) [] []) [t34] h (fun t35 h =>
  runD (extractD t35 0) h fun t36 h =>
  runD (extractD t35 1) h fun t37 h =>
  runD (fieldAddrD T_api_Node t5 4) h fun t38 h =>
  runD (fitD T_sl_int (loadD h t38)) h fun t39 h =>
  runD (lenD T_sl_int h t39) h fun t40 h =>
  runD (binD T_int .gtr t40 (.int .i64 100)) h fun t41 h =>
  joinW (fun (J1 : AV → AV → List AObj → Prop) =>
  guardW t41 false
  (runD (lenD T_sl_int h t4) h fun t44 h =>
    runD (binD T_int .gtr t44 (.int .i64 20)) h fun t45 h =>
    J1 (.bool false) t45 h)
  (J1 (.bool true) .und h))
  (fun t42 t45 h => runD (pickD t42 (.bool true) t45) h fun t46 h =>
  joinW (fun (J2 : AV → AV → List AObj → Prop) =>
  guardW t46 false
  (runD (binD T_api_Errno .neq t37 (.int .i64 0)) h fun t49 h =>
    J2 (.bool false) t49 h)
  (J2 (.bool true) .und h))
  (fun t47 t49 h => runD (pickD t47 (.bool true) t49) h fun t50 h =>
  condW t50
  (K (.ret t32) h)
  (runD (makeSliceD T_sl_int (.int .i64 16) (.int .i64 16) h.length) h fun t53 h =>
  runDM (appendD T_sl_int h t53 t36 h.length) (appendH T_sl_int h t53 t36) h fun t55 h =>
  callW c (.fn (.func 27) [] []) [t55] h (fun t56 h =>
  runD (extractD t56 0) h fun t57 h =>
  runD (extractD t56 1) h fun t58 h =>
  allocW T_api_Mem h fun t14 h =>
  runH (storeH T_api_Mem h t14 t57) h fun _ h =>
  runD (fitD T_api_Node (loadD h t5)) h fun t59 h =>
  callW c (.fn (.func 31) [] []) [(.int .i64 1), t59, t2] h (fun t61 h =>
  runD (convD h T_uint8 T_int t1) h fun t64 h =>
  callW c (.fn (.func 32) [] []) [(.int .i64 1), t64] h (fun t65 h =>
  runD (extractD t65 0) h fun t66 h =>
  runD (extractD t65 1) h fun t67 h =>
  runD (fitD T_api_Mem (loadD h t14)) h fun t69 h =>
  callW c (.fn (.func 17) [] []) [t69, t61] h (fun t71 h =>
  runD (extractD t71 0) h fun t72 h =>
  runD (extractD t71 1) h fun t73 h =>
  allocW T_api_Mem h fun t19 h =>
  runH (storeH T_api_Mem h t19 t72) h fun _ h =>
  runD (fieldAddrD T_api_Mem t19 0) h fun t75 h =>
  runD (fitD T_sl_int (loadD h t75)) h fun t76 h =>
  callW c (.fn (.func 33) [] []) [t76, (.int .i64 1)] h (fun t77 h =>
  runD (extractD t77 0) h fun t78 h =>
  runD (extractD t77 1) h fun t79 h =>
  allocW T_api_Node h fun t21 h =>
  runH (storeH T_api_Node h t21 t78) h fun _ h =>
  runD (fitD T_api_Mem (loadD h t14)) h fun t81 h =>
  runD (convD h T_uint8 T_int t3) h fun t84 h =>
  runD (lenD T_sl_api_Micro h t66) h fun t86 h =>
  runD (binD T_int .add t86 (.int .i64 1)) h fun t87 h =>
  runD (binD T_int .rem t84 t87) h fun t88 h =>
  callW c.noS (.fn (.func 20) [] []) [t81, t66, t88, t4] h (fun t90 h =>
  runD (extractD t90 0) h fun t91 h =>
  runD (extractD t90 1) h fun t92 h =>
  callW c (.fn (.func 33) [] []) [t91, (.int .i64 1)] h (fun t95 h =>
  runD (extractD t95 0) h fun t96 h =>
  runD (extractD t95 1) h fun t97 h =>
  allocW T_api_Node h fun t25 h =>
  runH (storeH T_api_Node h t25 t96) h fun _ h =>
  runD (binD T_api_Errno .neq t67 (.int .i64 0)) h fun t99 h =>
  joinW (fun (J3 : AV → AV → List AObj → Prop) =>
  guardW t99 false
  (runD (binD T_api_Errno .neq t73 (.int .i64 0)) h fun t102 h =>
    J3 (.bool false) t102 h)
  (J3 (.bool true) .und h))
  (fun t100 t102 h => runD (pickD t100 (.bool true) t102) h fun t103 h =>
  joinW (fun (J4 : AV → AV → List AObj → Prop) =>
  guardW t103 false
  (runD (binD T_api_Errno .neq t79 (.int .i64 0)) h fun t106 h =>
    J4 (.bool false) t106 h)
  (J4 (.bool true) .und h))
  (fun t104 t106 h => runD (pickD t104 (.bool true) t106) h fun t107 h =>
  joinW (fun (J5 : AV → AV → List AObj → Prop) =>
  guardW t107 false
  (runD (binD T_api_Errno .neq t92 (.int .i64 0)) h fun t110 h =>
    J5 (.bool false) t110 h)
  (J5 (.bool true) .und h))
  (fun t108 t110 h => runD (pickD t108 (.bool true) t110) h fun t111 h =>
  joinW (fun (J6 : AV → AV → List AObj → Prop) =>
  guardW t111 false
  (runD (binD T_api_Errno .neq t97 (.int .i64 0)) h fun t114 h =>
    J6 (.bool false) t114 h)
  (J6 (.bool true) .und h))
  (fun t112 t114 h => runD (pickD t112 (.bool true) t114) h fun t115 h =>
  condW t115
  (K (.ret (.bool false)) h)
  (runD (fieldAddrD T_api_Node t5 1) h fun t116 h =>
  runD (fitD T_int (loadD h t116)) h fun t117 h =>
  runD (lenD T_sl_api_Micro h t61) h fun t119 h =>
  runD (binD T_int .add t117 t119) h fun t120 h =>
  runD (binD T_int .gtr t120 (.int .i64 1099511627776)) h fun t122 h =>
  joinW (fun (J7 : AV → List AObj → Prop) =>
  condW t122
  (J7 (.int .i64 1) h)
  (J7 t120 h))
  (fun t27 h => runD (fieldAddrD T_api_Node t21 1) h fun t123 h =>
  runD (fitD T_int (loadD h t123)) h fun t124 h =>
  runD (binD T_int .eql t124 t27) h fun t126 h =>
  joinW (fun (J8 : AV → AV → List AObj → Prop) =>
  guardW t126 true
  (runD (fieldAddrD T_api_Node t21 1) h fun t128 h =>
    runD (fitD T_int (loadD h t128)) h fun t129 h =>
    runD (binD T_int .rem t129 (.int .i64 2)) h fun t130 h =>
    runD (binD T_int .eql t130 (.int .i64 1)) h fun t131 h =>
    runD (binD T_bool .eql t131 t2) h fun t133 h =>
    J8 (.bool true) t133 h)
  (J8 (.bool false) .und h))
  (fun t127 t133 h => runD (pickD t127 t133 (.bool false)) h fun t134 h =>
  runD (fieldAddrD T_api_Node t21 0) h fun t135 h =>
  runD (fitD T_int (loadD h t135)) h fun t136 h =>
  runD (fieldAddrD T_api_Node t5 0) h fun t137 h =>
  runD (fitD T_int (loadD h t137)) h fun t138 h =>
  runD (binD T_int .eql t136 t138) h fun t139 h =>
  joinW (fun (J9 : AV → AV → List AObj → Prop) =>
  guardW t139 true
  (runD (fieldAddrD T_api_Node t21 2) h fun t141 h =>
    runD (fitD T_int (loadD h t141)) h fun t142 h =>
    runD (fieldAddrD T_api_Node t5 2) h fun t143 h =>
    runD (fitD T_int (loadD h t143)) h fun t144 h =>
    runD (binD T_int .eql t142 t144) h fun t145 h =>
    J9 (.bool true) t145 h)
  (J9 (.bool false) .und h))
  (fun t140 t145 h => runD (pickD t140 t145 (.bool false)) h fun t146 h =>
  joinW (fun (J10 : AV → AV → List AObj → Prop) =>
  guardW t146 true
  (runD (fieldAddrD T_api_Node t21 3) h fun t148 h =>
    runD (fitD T_int (loadD h t148)) h fun t149 h =>
    runD (fieldAddrD T_api_Node t5 3) h fun t150 h =>
    runD (fitD T_int (loadD h t150)) h fun t151 h =>
    runD (binD T_int .eql t149 t151) h fun t152 h =>
    J10 (.bool true) t152 h)
  (J10 (.bool false) .und h))
  (fun t147 t152 h => runD (pickD t147 t152 (.bool false)) h fun t153 h =>
  joinW (fun (J11 : AV → AV → List AObj → Prop) =>
  guardW t153 true
  (runD (fieldAddrD T_api_Node t21 4) h fun t155 h =>
    runD (fitD T_sl_int (loadD h t155)) h fun t156 h =>
    runD (fieldAddrD T_api_Node t5 4) h fun t157 h =>
    runD (fitD T_sl_int (loadD h t157)) h fun t158 h =>
    callW c (.fn (.func 22) [] []) [t156, t158] h (fun t159 h =>
    J11 (.bool true) t159 h)
    (fun v h => K (.pan v) h))
  (J11 (.bool false) .und h))
  (fun t154 t159 h => runD (pickD t154 t159 (.bool false)) h fun t160 h =>
  runD (fieldAddrD T_api_Node t5 2) h fun t161 h =>
  runD (fitD T_int (loadD h t161)) h fun t162 h =>
  runD (fieldAddrD T_api_Node t25 2) h fun t163 h =>
  runH (storeH T_int h t163 t162) h fun _ h =>
  callW c (.fn (.func 33) [] []) [t91, (.int .i64 1)] h (fun t166 h =>
  runD (extractD t166 0) h fun t167 h =>
  runD (extractD t166 1) h fun t168 h =>
  allocW T_api_Node h fun t30 h =>
  runH (storeH T_api_Node h t30 t167) h fun _ h =>
  joinW (fun (J12 : AV → AV → List AObj → Prop) =>
  guardW t32 true
  (J12 (.bool true) t134 h)
  (J12 (.bool false) .und h))
  (fun t170 t171 h => runD (pickD t170 t171 (.bool false)) h fun t172 h =>
  joinW (fun (J13 : AV → AV → List AObj → Prop) =>
  guardW t172 true
  (J13 (.bool true) t160 h)
  (J13 (.bool false) .und h))
  (fun t173 t174 h => runD (pickD t173 t174 (.bool false)) h fun t175 h =>
  joinW (fun (J14 : AV → AV → List AObj → Prop) =>
  guardW t175 true
  (runD (fitD T_api_Node (loadD h t25)) h fun t177 h =>
    runD (fitD T_api_Node (loadD h t5)) h fun t178 h =>
    callW c (.fn (.func 34) [] []) [t177, t178] h (fun t179 h =>
    J14 (.bool true) t179 h)
    (fun v h => K (.pan v) h))
  (J14 (.bool false) .und h))
  (fun t176 t179 h => runD (pickD t176 t179 (.bool false)) h fun t180 h =>
  joinW (fun (J15 : AV → AV → List AObj → Prop) =>
  guardW t180 true
  (runD (fieldAddrD T_api_Node t30 2) h fun t182 h =>
    runD (fitD T_int (loadD h t182)) h fun t183 h =>
    runD (fieldAddrD T_api_Node t5 2) h fun t184 h =>
    runD (fitD T_int (loadD h t184)) h fun t185 h =>
    runD (binD T_int .eql t183 t185) h fun t186 h =>
    joinW (fun (J16 : AV → AV → List AObj → Prop) =>
    guardW t186 false
    (runD (fieldAddrD T_api_Node t30 2) h fun t188 h =>
      runD (fitD T_int (loadD h t188)) h fun t189 h =>
      runD (convD h T_uint8 T_int t1) h fun t191 h =>
      runD (binD T_int .eql t189 t191) h fun t192 h =>
      J16 (.bool false) t192 h)
    (J16 (.bool true) .und h))
    (fun t187 t192 h => runD (pickD t187 (.bool true) t192) h fun t193 h =>
    J15 (.bool true) t193 h))
  (J15 (.bool false) .und h))
  (fun t181 t193 h => runD (pickD t181 t193 (.bool false)) h fun t194 h =>
  K (.ret t194) h)))))
  (fun v h => K (.pan v) h))))))))))))
  (fun v h => K (.pan v) h))
  (fun _ _ => False))
  (fun v h => K (.pan v) h))
  (fun v h => K (.pan v) h))
  (fun v h => K (.pan v) h))
  (fun v h => K (.pan v) h))
  (fun v h => K (.pan v) h)))))
  (fun v h => K (.pan v) h))
  (fun v h => K (.pan v) h)
theorem lamplighterlaw09_NodeTurns.eq (F : List (FuncId × Contract)) (S : List (FuncId × Con)) (t0 t1 t2 t3 t4 : AV) (h : List AObj) (K : AOut → List AObj → Prop) : funW (ctx F S lamplighterlaw09_NodeTurns.loops) Try.f8 [t0, t1, t2, t3, t4] h K = lamplighterlaw09_NodeTurns.H (ctx F S lamplighterlaw09_NodeTurns.loops) t0 t1 t2 t3 t4 h K := by kernel_rfl
theorem lamplighterlaw09_NodeTurns.at : Try.prog.funcs[8]? = some Try.f8 := by kernel_rfl
theorem lamplighterlaw09_NodeTurns.nm : (Try.f8.name == "runtime.NumGoroutine") = false := by kernel_rfl
theorem lamplighterlaw09_NodeTurns.bd : Try.f8.body.isNone = false := by kernel_rfl
end Lam
namespace Lam
open Go Go.Proofs
set_option linter.unusedVariables false
set_option linter.unnecessarySimpa false
set_option linter.unusedSimpArgs false
def twoW (w : List Int) : List Int := List.replicate 16 0 ++ w
theorem twoW_len {w : List Int} (h : w.length = 16) : (twoW w).length = 32 := by simp [twoW, h]
theorem twoW_set (w : List Int) (i : Nat) (v : Int) : (twoW w).set (16 + i) v = twoW (w.set i v) := by
  unfold twoW
  rw [List.set_append_right _ _ (by simp), List.length_replicate, Nat.add_sub_cancel_left]
theorem read_two {n : Nd} (h : n.ok) : readV (twoW (wordsNd n)) 1 = .tup [n.V, .int .i64 0] := by
  unfold readV
  have hl := twoW_len (words_len h)
  rw [hl, if_neg (by decide)]
  have : blockAt (twoW (wordsNd n)) (1 : Int).toNat = wordsNd n := by
    unfold blockAt twoW
    rw [List.drop_left' (by simp)]; exact List.take_of_length_le (by rw [words_len h]; exact Nat.le_refl _)
  rw [this, readN_ok h]
theorem turned_ok {n : Nd} (h : n.ok) : (turnedN n).ok := by
  obtain ⟨h1, h2, h3, h4, h5, h6, h7, h8⟩ := h
  refine ⟨h1, h2, ?_, ?_, h5, h6, h7, h8⟩
  · show 0 ≤ n.turn % 1099511627776 + 1; omega
  · show n.turn % 1099511627776 + 1 ≤ _; omega
theorem turn_cases {n : Nd} (h : n.ok) (down : Bool) : (turnS 1 n down = [] ∧ decide (n.turn % 2 = 1) = down) ∨ (turnS 1 n down = [⟨1, 16, firstN (turnedN n)⟩] ∧ decide ((turnedN n).turn % 2 = 1) = down) := by
  unfold turnS
  rw [nd_iff.2 h]
  have h3 := h.2.2.1
  by_cases e : decide (n.turn % 2 = 1) = down
  · exact .inl ⟨by rw [if_neg (by simp [e])], e⟩
  · refine .inr ⟨by rw [if_pos (by simp [e, blockB])]; rfl, ?_⟩
    show decide ((n.turn % 1099511627776 + 1) % 2 = 1) = down
    have : decide ((n.turn % 1099511627776 + 1) % 2 = 1) = !decide (n.turn % 2 = 1) := by
      rw [← decide_not]; exact decide_eq_decide.2 (by omega)
    rw [this]
    cases down <;> cases hh : decide (n.turn % 2 = 1) <;> simp_all
theorem next_crash {n : Nd} (h : n.ok) {next : Int} (h0 : 0 ≤ next) (h1 : next < 256) (k : Nat) (keep : List Int) :
    ∃ y : Nd, y.ok ∧ (y.next = n.next ∨ y.next = next) ∧ { y with next := n.next } = n ∧ crashW keep (runS ⟨twoW (wordsNd n), twoW (wordsNd n), []⟩ (([⟨1, 17, next⟩, ⟨2, 2, 0⟩] : List Mic).take k)).per (runS ⟨twoW (wordsNd n), twoW (wordsNd n), []⟩ (([⟨1, 17, next⟩, ⟨2, 2, 0⟩] : List Mic).take k)).pend = twoW (wordsNd y) := by
  have hl := twoW_len (words_len h)
  have hg : Goods none ([⟨1, 17, next⟩, ⟨2, 2, 0⟩] : List Mic) := by
    unfold Goods
    rw [if_pos rfl]
    refine ⟨fun L hL => (by cases hL), ?_⟩
    unfold Goods
    rw [if_neg (show ¬ (2 : Int) = 1 by decide)]
    exact ⟨fun L hL => by rw [← Option.some.inj hL]; rfl, trivial⟩
  have hm : ∀ x ∈ ([⟨1, 17, next⟩, ⟨2, 2, 0⟩] : List Mic), MayN x (twoW (wordsNd n)).length := by
    intro x hx
    rw [hl]
    rcases List.mem_cons.1 hx with rfl | hx
    · exact .inl ⟨rfl, by show (0 : Int) ≤ 17; omega, by show (17 : Int) < _; omega⟩
    · rw [List.mem_singleton] at hx; subst hx
      exact .inr ⟨rfl, by show (0 : Int) ≤ 2; omega, by show (2 : Int) < _; omega, rfl⟩
  obtain ⟨j, hj, hst⟩ := stores_take ([⟨1, 17, next⟩, ⟨2, 2, 0⟩] : List Mic) k
  have hbg := begun_end (([⟨1, 17, next⟩, ⟨2, 2, 0⟩] : List Mic).take k) (begun_new (w := twoW (wordsNd n)) (by omega) (by omega)) (good_take _ _ k hg) (fun x hx => hm x (List.take_subset _ _ hx))
  rw [List.nil_append, hst] at hbg
  obtain ⟨i, hi, hc, _⟩ := hbg.crash keep
  rw [hc, List.take_take]
  have hS : storesOf ([⟨1, 17, next⟩, ⟨2, 2, 0⟩] : List Mic) = [⟨17, next, false⟩] := rfl
  rw [hS]
  rcases Nat.eq_zero_or_pos (min i j) with e | e
  · refine ⟨n, h, .inl rfl, by cases n; rfl, ?_⟩
    rw [e]; rfl
  · obtain ⟨h1', h2, h3, h4, h5, h6, h7, h8⟩ := h
    refine ⟨{ n with next := next }, ⟨h1', h2, h3, h4, ⟨h0, h1⟩, h6, h7, h8⟩, .inr rfl, by cases n; rfl, ?_⟩
    rw [List.take_of_length_le (by simp; omega)]
    exact twoW_set (wordsNd n) 1 next
abbrev NodeTurns_ctx : Ctx := ctx [(29, lamplighterlaw09_awake.C), (30, node_Words.C), (33, node_Read.C), (32, node_Next.C), (31, node_Turn.C), (27, pmem_New.C), (17, micro_Run.C), (20, micro_Crash.C), (34, lamplighterref09_Same.C), (22, lamplighterref02_Numbers.C)] [] lamplighterlaw09_NodeTurns.loops
set_option maxRecDepth 20000 in
theorem NodeTurns_vc (n_level : Int) (n_turn : Int) (n_next : Int) (n_low : Int) (n_slots : List Int) (next : Int) (down : Bool) (k : Int) (keep : List Int) (w_n_level : (Lit.int .i64 n_level).wf = true) (w_n_turn : (Lit.int .i64 n_turn).wf = true) (w_n_next : (Lit.int .i64 n_next).wf = true) (w_n_low : (Lit.int .i64 n_low).wf = true) (w_n_slots : wfL (.ints .i64 n_slots)) (n_n_slots : n_slots.length ≤ maxLen) (w_next : (Lit.int .u8 next).wf = true) (w_k : (Lit.int .u8 k).wf = true) (w_keep : wfL (.ints .i64 keep)) (n_keep : keep.length ≤ maxLen) : lamplighterlaw09_NodeTurns.H NodeTurns_ctx (.agg [(.int .i64 n_level), (.int .i64 n_turn), (.int .i64 n_next), (.int .i64 n_low), (.sl false (.ints .i64 n_slots))]) (.int .u8 next) (.bool down) (.int .u8 k) (.sl false (.ints .i64 keep)) [] Told := by
  unfold lamplighterlaw09_NodeTurns.H
  simp (maxSteps := 4000000) only [go_sem, Nat.reduceEqDiff, Nat.reduceLT, Nat.reduceAdd, Nat.reduceSub, Nat.reduceLeDiff, List.reduceReplicate, Int.reduceToNat, lamplighterlaw09_awake.C, node_Words.C, node_Read.C, node_Next.C, node_Turn.C, pmem_New.C, micro_Run.C, micro_Crash.C, lamplighterref09_Same.C, lamplighterref02_Numbers.C]
  have hb := wf_u8 w_next
  have hk := wf_u8 w_k
  have e0 : IntKind.i64.wrap next = next := w64 (by omega) (by omega)
  rw [e0]
  generalize hn : (⟨n_level, n_turn, n_next, n_low, n_slots⟩ : Nd) = n at *
  have hV : Nd.V n = .agg [.int .i64 n_level, .int .i64 n_turn, .int .i64 n_next, .int .i64 n_low, .sl false (.ints .i64 n_slots)] := by subst hn; rfl
  have hnx : nextV 1 next = .tup [.sl false (.mics [⟨1, 17, next⟩, ⟨2, 2, 0⟩]), .int .i64 0] := by
    unfold nextV; rw [if_pos (by unfold blockB; rw [decide_eq_true hb.1, decide_eq_true hb.2]; rfl)]; rfl
  cases h1 : ndB n with
  | false =>
    simp only [wordsV_no h1, joinW_eq, guard_tt, guard_tf, guard_ft, guard_ff, Int.reduceEq, Int.reduceLT, Int.reduceLE, decide_false, decide_true, Bool.not_false, Bool.not_true, Bool.not_not, not_true_eq_false, not_false_eq_true, true_implies, false_implies, implies_true, and_true, true_and, reduceCtorEq, Bool.and_self, Bool.or_self, Bool.and_true, Bool.true_and, Bool.false_eq_true, if_true, if_false, go_sem, Nat.reduceEqDiff, Nat.reduceLT, Nat.reduceAdd, Nat.reduceSub, Nat.reduceLeDiff, List.reduceReplicate, Int.reduceToNat]
    cases decide (100 < (n_slots.length : Int)) <;> cases decide (20 < (keep.length : Int)) <;> simp only [guard_tf, guard_ff] <;> rfl
  | true =>
    have hok := nd_iff.1 h1
    have hl := words_len hok
    have h2l := twoW_len hl
    have hz : [0, 0, 0, 0, 0, 0, 0, 0, 0, 0, 0, 0, 0, 0, 0, 0] ++ wordsNd n = twoW (wordsNd n) := rfl
    have hnew : newM (twoW (wordsNd n)) = .tup [memV (twoW (wordsNd n)) (twoW (wordsNd n)) [], .int .i64 0] := by
      unfold newM; rw [show szB _ = true from by rw [h2l]; decide]; rfl
    have htk : (twoW (wordsNd n)).take 32 = twoW (wordsNd n) := take_len _ (by omega)
    have hsm : smallM (twoW (wordsNd n)) (twoW (wordsNd n)) [] := by unfold smallM roomy; rw [h2l]; simp
    have hsd : ∀ l : List Mic, (∀ x ∈ l, MayN x 32) → soundB ⟨twoW (wordsNd n), twoW (wordsNd n), []⟩ l = true := fun l hl' =>
      sound_iff.2 ⟨(begun_new (w := twoW (wordsNd n)) (by omega) (by omega)).ok, fun x hx => by show MayN x (twoW (wordsNd n)).length; rw [h2l]; exact hl' x hx⟩
    have em : (IntKind.i64.wrap k).tmod (IntKind.i64.wrap (2 + 1)) = ((k.toNat % 3 : Nat) : Int) := modN hk.1 hk.2 (k := 2) (by omega)
    have hk3 : k.toNat % 3 ≤ 2 := by omega
    have hi64 := wf_i64s w_keep
    have s2 := hsd [⟨1, 17, next⟩, ⟨2, 2, 0⟩] (fun x hx => by
      rcases List.mem_cons.1 hx with rfl | hx
      · exact .inl ⟨rfl, by show (0 : Int) ≤ 17; omega, by show (17 : Int) < _; omega⟩
      · rw [List.mem_singleton] at hx; subst hx
        exact .inr ⟨rfl, by show (0 : Int) ≤ 2; omega, by show (2 : Int) < _; omega, rfl⟩)
    obtain ⟨y, hy, hyn, hyw, hyc⟩ := next_crash hok hb.1 hb.2 (k.toNat % 3) keep
    have hry := read_two hy
    have hyl := twoW_len (words_len hy)
    have ec : (cutI ((k.toNat % 3 : Nat) : Int) ([⟨1, 17, next⟩, ⟨2, 2, 0⟩] : List Mic).length).toNat = k.toNat % 3 := cutI_nat hk3
    have hmc := mcrash_ok (n := ((k.toNat % 3 : Nat) : Int)) (keep := keep) s2
    rw [ec, hyc] at hmc
    simp only [wordsV_ok h1, hl, hz, pmem_New.C, htk, hnew, node_Turn.C, hn, hnx, h2l, em, joinW_eq, guard_tt, guard_tf, guard_ft, guard_ff, Int.reduceEq, Int.reduceLT, Int.reduceLE, decide_false, decide_true, Bool.not_false, Bool.not_true, Bool.not_not, not_true_eq_false, not_false_eq_true, true_implies, false_implies, implies_true, and_true, true_and, reduceCtorEq, Bool.and_self, Bool.or_self, Bool.and_true, Bool.true_and, Bool.false_eq_true, if_true, if_false, go_sem, Nat.reduceEqDiff, Nat.reduceLT, Nat.reduceAdd, Nat.reduceSub, Nat.reduceLeDiff, List.reduceReplicate, Int.reduceToNat]
    cases hg1 : decide (100 < (n_slots.length : Int)) with
    | true => simp only [guard_tf, guard_ff]; rfl
    | false =>
    cases hg2 : decide (20 < (keep.length : Int)) with
    | true => simp only [guard_tf, guard_ff]; rfl
    | false =>
    simp only [guard_tf, guard_ff]
    have hkr : roomy keep.length := by have := of_decide_eq_false hg2; unfold roomy; omega
    have hx1 : n_level = n.level := by subst hn; rfl
    have hx2 : n_turn = n.turn := by subst hn; rfl
    have hx3 : n_next = n.next := by subst hn; rfl
    have hx4 : n_low = n.low := by subst hn; rfl
    have hx5 : n_slots = n.slots := by subst hn; rfl
    have hyd : decide ((⟨y.level, y.turn, n.next, y.low, y.slots⟩ : Nd) = ⟨n.level, n.turn, n.next, n.low, n.slots⟩) = true := decide_eq_true hyw
    have q3 := hok.2.2.1
    have q4 := hok.2.2.2.1
    have q7 := hok.2.2.2.2.2.2.1
    have y7 := hy.2.2.2.2.2.2.1
    have r16 : roomy 16 := by unfold roomy; omega
    have r32 : roomy 32 := by unfold roomy; omega
    have hrs : roomy n.slots.length := by unfold roomy; omega
    have hrys : roomy y.slots.length := by unfold roomy; omega
    have hryw : roomy (twoW (wordsNd y)).length := by rw [hyl]; exact r32
    have hrnw : roomy (twoW (wordsNd n)).length := by rw [h2l]; exact r32
    have hne3 : ¬ IntKind.i64.wrap (2 + 1) = 0 := by decide
    have fin : ∀ H, guardW (AV.bool (decide (y.next = n.next))) false (Told (.ret (.bool (decide (y.next = next)))) H) (Told (.ret (.bool true)) H) := fun H => by
      rcases hyn with e | e
      · rw [decide_eq_true e]; simp only [guard_tf]; rfl
      · rw [decide_eq_true e]; cases decide (y.next = n.next) <;> simp only [guard_tf, guard_ff] <;> rfl
    rcases turn_cases hok down with ⟨ht, hd⟩ | ⟨ht, hd⟩
    · have s1 := hsd [] (fun x hx => by cases hx)
      have hrun : runV ⟨twoW (wordsNd n), twoW (wordsNd n), []⟩ [] = .tup [memV (twoW (wordsNd n)) (twoW (wordsNd n)) [], .int .i64 0] := by rw [runV_ok s1]; rfl
      have hrx := read_two hok
      simp only [ht, hrun, hmc, micro_Run.C, micro_Crash.C, node_Read.C, hrx, hry, lamplighterref02_Numbers.C, lamplighterref09_Same.C, List.length_nil, joinW_eq, guard_tt, guard_tf, guard_ft, guard_ff, Int.reduceEq, Int.reduceLT, Int.reduceLE, decide_false, decide_true, Bool.not_false, Bool.not_true, Bool.not_not, not_true_eq_false, not_false_eq_true, true_implies, false_implies, implies_true, and_true, true_and, reduceCtorEq, Bool.and_self, Bool.or_self, Bool.and_true, Bool.true_and, Bool.false_eq_true, if_true, if_false, go_sem, Nat.reduceEqDiff, Nat.reduceLT, Nat.reduceAdd, Nat.reduceSub, Nat.reduceLeDiff, List.reduceReplicate, Int.reduceToNat]
      have t1 : ¬ (1099511627776 < IntKind.i64.wrap (n.turn + 0)) := by rw [w64 (by omega) (by omega)]; omega
      have t2 : IntKind.i64.wrap (n.turn + 0) = n.turn := by rw [w64 (by omega) (by omega)]; omega
      have t3 : n.turn.tmod 2 = n.turn % 2 := Int.tmod_eq_emod_of_nonneg q3
      simp only [hx1, hx2, hx3, hx4, hx5, t1, t2, t3, hd, hyd, decide_true, beq_self_eq_true, joinW_eq, guard_tt, guard_tf, guard_ft, guard_ff, Int.reduceEq, Int.reduceLT, Int.reduceLE, decide_false, decide_true, Bool.not_false, Bool.not_true, Bool.not_not, not_true_eq_false, not_false_eq_true, true_implies, false_implies, implies_true, and_true, true_and, reduceCtorEq, Bool.and_self, Bool.or_self, Bool.and_true, Bool.true_and, Bool.false_eq_true, if_true, if_false, go_sem, Nat.reduceEqDiff, Nat.reduceLT, Nat.reduceAdd, Nat.reduceSub, Nat.reduceLeDiff, List.reduceReplicate, Int.reduceToNat]
      exact ⟨r16, r32, r32, hsm, hrnw, hne3, ⟨hsm, hkr, hi64⟩, hryw, fun h => absurd h (by omega), fun _ => ⟨hrs, hryw, hrys, fin _⟩⟩
    · have s1 := hsd [⟨1, 16, firstN (turnedN n)⟩] (fun x hx => by
        rw [List.mem_singleton] at hx; subst hx
        exact .inl ⟨rfl, by show (0 : Int) ≤ 16; omega, by show (16 : Int) < _; omega⟩)
      have hv : (runS ⟨twoW (wordsNd n), twoW (wordsNd n), []⟩ [⟨1, 16, firstN (turnedN n)⟩]).vol = twoW (wordsNd (turnedN n)) := twoW_set (wordsNd n) 0 (firstN (turnedN n))
      have hrx := read_two (turned_ok hok)
      have h2x := twoW_len (words_len (turned_ok hok))
      simp only [ht, runV_ok s1, hv, hmc, micro_Run.C, micro_Crash.C, node_Read.C, hrx, hry, lamplighterref02_Numbers.C, lamplighterref09_Same.C, List.length_cons, List.length_nil, joinW_eq, guard_tt, guard_tf, guard_ft, guard_ff, Int.reduceEq, Int.reduceLT, Int.reduceLE, decide_false, decide_true, Bool.not_false, Bool.not_true, Bool.not_not, not_true_eq_false, not_false_eq_true, true_implies, false_implies, implies_true, and_true, true_and, reduceCtorEq, Bool.and_self, Bool.or_self, Bool.and_true, Bool.true_and, Bool.false_eq_true, if_true, if_false, go_sem, Nat.reduceEqDiff, Nat.reduceLT, Nat.reduceAdd, Nat.reduceSub, Nat.reduceLeDiff, List.reduceReplicate, Int.reduceToNat]
      have t3 : (turnedN n).turn.tmod 2 = (turnedN n).turn % 2 := Int.tmod_eq_emod_of_nonneg (turned_ok hok).2.2.1
      have d1 : decide ((turnedN n).level = n.level) = true := decide_eq_true rfl
      have d2 : decide ((turnedN n).next = n.next) = true := decide_eq_true rfl
      have d3 : decide ((turnedN n).low = n.low) = true := decide_eq_true rfl
      have d4 : decide ((turnedN n).slots = n.slots) = true := decide_eq_true rfl
      have t1 : IntKind.i64.wrap (n.turn + 1) = n.turn + 1 := w64 (by omega) (by omega)
      have tt : (turnedN n).turn = n.turn % 1099511627776 + 1 := rfl
      have hrx2 : roomy (twoW (wordsNd (turnedN n))).length := by rw [h2x]; exact r32
      have hrts : roomy (turnedN n).slots.length := hrs
      simp only [hx1, hx2, hx3, hx4, hx5, t1, t3, hd, hyd, d1, d2, d3, d4, decide_true, beq_self_eq_true, joinW_eq, guard_tt, guard_tf, guard_ft, guard_ff, Int.reduceEq, Int.reduceLT, Int.reduceLE, decide_false, decide_true, Bool.not_false, Bool.not_true, Bool.not_not, not_true_eq_false, not_false_eq_true, true_implies, false_implies, implies_true, and_true, true_and, reduceCtorEq, Bool.and_self, Bool.or_self, Bool.and_true, Bool.true_and, Bool.false_eq_true, if_true, if_false, go_sem, Nat.reduceEqDiff, Nat.reduceLT, Nat.reduceAdd, Nat.reduceSub, Nat.reduceLeDiff, List.reduceReplicate, Int.reduceToNat]
      refine ⟨r16, r32, r32, hsm, hrx2, hne3, ⟨hsm, hkr, hi64⟩, hryw, fun h => ?_, fun h => ?_⟩
      · rw [decide_eq_true (show (turnedN n).turn = 1 by rw [tt]; omega)]
        simp only [guard_tt]
        exact ⟨hrts, hryw, hrys, fin _⟩
      · rw [decide_eq_true (show (turnedN n).turn = n.turn + 1 by rw [tt]; omega)]
        simp only [guard_tt]
        exact ⟨hrts, hryw, hrys, fin _⟩
theorem NodeTurns_ok : Ok Try.prog NodeTurns_ctx := ctx_ok (by simpa using ⟨lamplighterlaw09_awake.spec, node_Words.spec, node_Read.spec, node_Next.spec, node_Turn.spec, pmem_New.spec, micro_Run.spec, micro_Crash.spec, lamplighterref09_Same.spec, lamplighterref02_Numbers.spec⟩) (by simp) _
theorem NodeTurns_law (n : AV) (next : Int) (down : Bool) (k : Int) (keep : Lst) (g_n : GoodV T_api_Node n) (w_next : (Lit.int .u8 next).wf = true) (w_k : (Lit.int .u8 k).wf = true) (k_keep : keep.kind = (.int .i64)) (w_keep : wfL keep) (n_keep : keep.len ≤ maxLen) : funW NodeTurns_ctx Try.f8 [n, (.int .u8 next), (.bool down), (.int .u8 k), (.sl false keep)] [] Told := by
  obtain ⟨_, rfl, _, _, rfl, ⟨n_level, rfl, w_n_level⟩, _, _, rfl, ⟨n_turn, rfl, w_n_turn⟩, _, _, rfl, ⟨n_next, rfl, w_n_next⟩, _, _, rfl, ⟨n_low, rfl, w_n_low⟩, _, _, rfl, ⟨n_slots, rfl, k_n_slots, w_n_slots, n_n_slots⟩, rfl⟩ := g_n
  obtain ⟨n_slots, rfl⟩ := gkind_ints k_n_slots
  obtain ⟨keep, rfl⟩ := gkind_ints k_keep
  rw [NodeTurns_ctx, lamplighterlaw09_NodeTurns.eq]
  exact NodeTurns_vc n_level n_turn n_next n_low n_slots next down k keep w_n_level w_n_turn w_n_next w_n_low w_n_slots n_n_slots w_next w_k w_keep n_keep
end Lam
