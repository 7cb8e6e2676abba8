/- The check of a batch, by contract. Conditions: its lines lie in memory as 'LinesAt' says. -/
import Derived.Test.YtkempjcdapfopaaChkW
namespace Go.Proofs.Ytkempjcdapfopaa
open Go.RowKit
attribute [local go_sem ↓] Go.wp_at_zero Go.wp_at_succ
theorem idx146a (a b : Int) (w : World) : (Instr.index 146 (.agg #[.int .i64 a, .int .i64 b]) (.int .i64 0)).run Try.prog w = .ok (.int .i64 a) w := by kernel_rfl
theorem idx146b (a b : Int) (w : World) : (Instr.index 146 (.agg #[.int .i64 a, .int .i64 b]) (.int .i64 1)).run Try.prog w = .ok (.int .i64 b) w := by kernel_rfl

/-- what the check of a batch says -/
def bchk (s e : Int) (l : List (Int × Int)) : Int := if 0 ≤ s ∧ s ≤ 2147483647 ∧ 0 ≤ e ∧ e ≤ 2147483647 then (if l.length = 0 then 0 else chkL l) else 2

set_option maxRecDepth 100000 in
theorem bcheck_1 (w : World) (s e : Int) (A : Option Addr) (n c : Nat) (h : s < 0) : Calls Try.prog 54 #[.agg #[.int .i64 s, .int .i64 e, .slice A n c]] w fun e w' => e = .returned (.int .i64 2) ∧ Only [] w w' := by
  have ia := idx146a
  have ib := idx146b
  go_enter Try.func54, Try.ntmps54
  go_wp2
  refine wp_loop_rounds 3 ?_
  rw [rounds_succ]
  go_wp2
  go_ret
  exact ⟨rfl, (Only.refl [] w).alloc _⟩
set_option maxRecDepth 100000 in
theorem bcheck_2 (w : World) (s e : Int) (A : Option Addr) (n c : Nat) (h : 2147483647 < s) : Calls Try.prog 54 #[.agg #[.int .i64 s, .int .i64 e, .slice A n c]] w fun e w' => e = .returned (.int .i64 2) ∧ Only [] w w' := by
  have ia := idx146a
  have ib := idx146b
  go_enter Try.func54, Try.ntmps54
  go_wp2
  refine wp_loop_rounds 3 ?_
  rw [rounds_succ]
  go_wp2
  go_ret
  exact ⟨rfl, (Only.refl [] w).alloc _⟩
set_option maxRecDepth 100000 in
theorem bcheck_3 (w : World) (s e : Int) (A : Option Addr) (n c : Nat) (h0 : 0 ≤ s) (h1 : s ≤ 2147483647) (h : e < 0) : Calls Try.prog 54 #[.agg #[.int .i64 s, .int .i64 e, .slice A n c]] w fun e w' => e = .returned (.int .i64 2) ∧ Only [] w w' := by
  have ia := idx146a
  have ib := idx146b
  go_enter Try.func54, Try.ntmps54
  go_wp2
  refine wp_loop_rounds 3 ?_
  rw [rounds_succ]
  go_wp2
  rw [rounds_succ]
  go_wp2
  go_ret
  exact ⟨rfl, (Only.refl [] w).alloc _⟩
set_option maxRecDepth 100000 in
theorem bcheck_4 (w : World) (s e : Int) (A : Option Addr) (n c : Nat) (h0 : 0 ≤ s) (h1 : s ≤ 2147483647) (h : 2147483647 < e) : Calls Try.prog 54 #[.agg #[.int .i64 s, .int .i64 e, .slice A n c]] w fun e w' => e = .returned (.int .i64 2) ∧ Only [] w w' := by
  have ia := idx146a
  have ib := idx146b
  go_enter Try.func54, Try.ntmps54
  go_wp2
  refine wp_loop_rounds 3 ?_
  rw [rounds_succ]
  go_wp2
  rw [rounds_succ]
  go_wp2
  go_ret
  exact ⟨rfl, (Only.refl [] w).alloc _⟩
set_option maxRecDepth 100000 in
theorem bcheck_5 (w : World) (s e : Int) (A : Option Addr) (c : Nat) (h0 : 0 ≤ s) (h1 : s ≤ 2147483647) (h2 : 0 ≤ e) (h3 : e ≤ 2147483647) : Calls Try.prog 54 #[.agg #[.int .i64 s, .int .i64 e, .slice A 0 c]] w fun e w' => e = .returned (.int .i64 0) ∧ Only [] w w' := by
  have ia := idx146a
  have ib := idx146b
  go_enter Try.func54, Try.ntmps54
  go_wp2
  refine wp_loop_rounds 3 ?_
  rw [rounds_succ]
  go_wp2
  rw [rounds_succ]
  go_wp2
  rw [rounds_succ]
  go_wp2
  go_ret
  exact ⟨rfl, (Only.refl [] w).alloc _⟩
set_option maxRecDepth 100000 in
theorem bcheck_6 (w : World) (B : Nat) (s e : Int) (v : Value) (l : List (Int × Int)) (h : LinesAt w B v l) (hB : B ≤ w.heap.size) (hmax : l.length ≤ 9223372036854775807) (h0 : 0 ≤ s) (h1 : s ≤ 2147483647) (h2 : 0 ≤ e) (h3 : e ≤ 2147483647) (hp : l.length ≠ 0) :
    Calls Try.prog 54 #[.agg #[.int .i64 s, .int .i64 e, v]] w fun e w' => e = .returned (.int .i64 (chkL l)) ∧ Only [] w w' := by
  have ia := idx146a
  have ib := idx146b
  have HV := hide h
  obtain ⟨A, c, rfl, _⟩ := h
  have hq : ((l.length : Int) == 0) = false := by simp; exact fun h => hp (by rw [h]; rfl)
  go_enter Try.func54, Try.ntmps54
  go_wp2
  refine wp_loop_rounds 3 ?_
  rw [rounds_succ]
  go_wp2
  rw [rounds_succ]
  go_wp2
  rw [rounds_succ]
  go_wp2_with fail
  have ob : Only [] w (w.alloc (Obj.cells #[.int .i64 s, .int .i64 e, .slice A l.length c] 65)) := (Only.refl [] w).alloc _
  refine (check_any _ B _ l (HV.out.only ob hB (by simp)) (by have := ob.size; omega) hmax).mono ?_
  rintro e w2 ⟨rfl, ho2⟩
  have HO := hide (ob.new ho2 (by simp))
  clear ob ho2
  go_wp2
  go_ret
  exact ⟨rfl, HO.out⟩
theorem bcheck_any (w : World) (B : Nat) (s e : Int) (v : Value) (l : List (Int × Int)) (h : LinesAt w B v l) (hB : B ≤ w.heap.size) (hmax : l.length ≤ 9223372036854775807) :
    Calls Try.prog 54 #[.agg #[.int .i64 s, .int .i64 e, v]] w fun e' w' => e' = .returned (.int .i64 (bchk s e l)) ∧ Only [] w w' := by
  unfold bchk
  by_cases hr : 0 ≤ s ∧ s ≤ 2147483647 ∧ 0 ≤ e ∧ e ≤ 2147483647
  · rw [if_pos hr]
    by_cases h0 : l.length = 0
    · rw [if_pos h0]
      obtain ⟨A, c, rfl, _⟩ := h
      rw [h0]
      exact bcheck_5 w s e A c hr.1 hr.2.1 hr.2.2.1 hr.2.2.2
    · rw [if_neg h0]
      exact bcheck_6 w B s e v l h hB hmax hr.1 hr.2.1 hr.2.2.1 hr.2.2.2 h0
  · rw [if_neg hr]
    obtain ⟨A, c, rfl, _⟩ := h
    by_cases h1 : s < 0
    · exact bcheck_1 w s e A _ c h1
    · by_cases h2 : 2147483647 < s
      · exact bcheck_2 w s e A _ c h2
      · by_cases h3 : e < 0
        · exact bcheck_3 w s e A _ c (by omega) (by omega) h3
        · exact bcheck_4 w s e A _ c (by omega) (by omega) (by omega)
end Go.Proofs.Ytkempjcdapfopaa
