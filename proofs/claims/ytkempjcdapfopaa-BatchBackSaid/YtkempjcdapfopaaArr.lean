/- Arrays: thirty blocks in a row, and whether two blocks are the same. Conditions: none beyond those of each lemma. -/
import Derived.Test.YtkempjcdapfopaaAliveW
namespace Go.Proofs.Ytkempjcdapfopaa
open Go.RowKit

theorem all_range_eq : ∀ (xs ys : List Int), xs.length = ys.length → ((List.range xs.length).all fun i => xs.getD i 0 == ys.getD i 0) = (xs == ys)
  | [], [], _ => rfl
  | x :: xs, y :: ys, h => by
    have ih := all_range_eq xs ys (by simpa using h)
    rw [List.length_cons, List.range_succ_eq_map, List.all_cons, List.all_map]
    simp only [List.getD_cons_zero, Function.comp_def, List.getD_cons_succ, ih]
    simp [List.cons_beq_cons]
  | [], _ :: _, h => by simp at h
  | _ :: _, [], h => by simp at h

theorem run_equalIn_ints {P : Program} (w : World) (d : Nat) (t e : TypeId) (n : Nat) (k : IntKind) (ht : P.underlying t = some (.array n e)) (he : P.underlying e = some (.int k)) (hsz : ∀ w, (sizeOf e).run P w = .ok 1 w)
    (xs ys : List Int) (hx : xs.length = n) (hy : ys.length = n) :
    (Op.equalIn (d + 2) t (.agg (xs.map (Value.int k)).toArray) (.agg (ys.map (Value.int k)).toArray)).run P w = .ok (xs == ys) w := by
  rw [← all_range_eq xs ys (hx.trans hy.symm), hx, List.range_eq_range', Op.equalIn]
  simp only [Sem.run_bind, run_underlying ht, Result.andThen_ok, hsz, Std.Legacy.Range.forIn_eq_forIn_range', Std.Legacy.Range.size, Nat.sub_zero, Nat.add_sub_cancel, Nat.div_one]
  have hl : ∀ i ∈ List.range' 0 n 1, i < n := fun i hi => by simpa using (List.mem_range'_1.1 hi).2
  generalize List.range' 0 n 1 = l at hl ⊢
  induction l with
  | nil => simp
  | cons i l ih =>
    have hi : i < n := hl i (by simp)
    have px : (part e (xs.map (Value.int k)).toArray (i * 1)).run P w = .ok (.int k (xs.getD i 0)) w := by
      simp [part, isAgg, run_underlying he, List.getD, List.getElem?_eq_getElem (show i < xs.length by omega)]
    have py : (part e (ys.map (Value.int k)).toArray (i * 1)).run P w = .ok (.int k (ys.getD i 0)) w := by
      simp [part, isAgg, run_underlying he, List.getD, List.getElem?_eq_getElem (show i < ys.length by omega)]
    have pe : (Op.equalIn (d + 1) e (.int k (xs.getD i 0)) (.int k (ys.getD i 0))).run P w = .ok (xs.getD i 0 == ys.getD i 0) w := run_equalIn_int w d e k k _ _ he
    simp only [List.forIn_cons, Sem.run_bind, px, py, pe, Result.andThen_ok, List.all_cons]
    cases hb : (xs.getD i 0 == ys.getD i 0)
    · simp
    · simp only [Bool.not_true, Bool.false_eq_true, if_false, Sem.run_pure, Result.andThen_ok, Bool.true_and]
      exact ih fun j hj => hl j (by simp [hj])

theorem Bk.beq_l (a b : Bk) : (a.l == b.l) = (a == b) := by
  rw [Bool.eq_iff_iff]
  simp only [beq_iff_eq]
  exact ⟨Bk.ext', fun h => by rw [h]⟩
theorem size5 (w : World) : (sizeOf 5).run Try.prog w = .ok 1 w := by kernel_rfl
theorem eqIn45 (a b : Bk) (w : World) : (Op.equalIn 10000 45 (.agg a.cells) (.agg b.cells)).run Try.prog w = .ok (a == b) w := by
  rw [← Bk.beq_l]
  exact run_equalIn_ints w 9998 45 5 64 .u8 Try.underlying45 Try.underlying5 size5 a.l b.l a.len b.len
theorem eqIn37 (a b : Bk) (w : World) : (Op.equalIn 10000 37 (.agg a.cells) (.agg b.cells)).run Try.prog w = .ok (a == b) w := by
  rw [← Bk.beq_l]
  exact run_equalIn_ints w 9998 37 5 64 .u8 Try.underlying37 Try.underlying5 size5 a.l b.l a.len b.len
attribute [go_sem] eqIn45 eqIn37

/-- blocks in a row -/
def bks (l : List Bk) : Array Value := flat Bk.cells l
theorem size_bks (l : List Bk) : (bks l).size = l.length * 64 := size_flat Bk.size_cells l
theorem ones_bks (l : List Bk) : ones (bks l) = true := by
  unfold ones bks flat
  rw [Array.all_eq_true_iff_forall_mem]
  intro v hv
  simp only [List.mem_toArray, List.mem_flatMap] at hv
  obtain ⟨b, _, hb⟩ := hv
  exact ones_list _ (ones_cells b) v hb
theorem sz53 : (Try.prog.info? 53).map (·.size) = some 1920 := by kernel_rfl
theorem at_load53 (x : Value) : Instr.loadAt 53 x = loadAtR 53 x := rfl
theorem run_load53 (w : World) (b o : Nat) : (loadAtR 53 (.pointer (some ⟨b, o, none⟩))).run Try.prog w = loadRes Try.prog 53 b o w (row w b o 1920) := run_loadAt_row 53 1920 _ Try.underlying53 rfl sz53 w b o
def bk30 : List Bk := List.replicate 30 Bk.zero
theorem zero53 (w : World) : (zeroValue 53).run Try.prog w = .ok (.agg (bks bk30)) w := by kernel_rfl
theorem at_alloc53 : Instr.alloc 53 true (.tuple #[]) = allocR 53 := rfl
theorem run_alloc53 (w : World) : (allocR 53).run Try.prog w = .ok (.pointer (some ⟨w.heap.size, 0, none⟩)) (w.alloc (.cells (bks bk30) 53)) := run_alloc_of zero53 w
theorem run_index53 (w : World) (l : List Bk) (k : Nat) (hl : l.length = 30) (hk : k < 30) : (Instr.index 53 (.agg (bks l)) (.int .i64 k)).run Try.prog w = .ok (.agg (l.getD k Bk.zero).cells) w := by
  have hs : (sizeOf 45).run Try.prog w = .ok 64 w := by kernel_rfl
  have ha : (isAgg 45).run Try.prog w = .ok true w := by kernel_rfl
  have hx : l[k]? = some (l.getD k Bk.zero) := by simp [List.getD, List.getElem?_eq_getElem (show k < l.length by omega)]
  have he := flat_ext Bk.size_cells hx 0 64 (by omega)
  simp only [Nat.add_zero, Nat.zero_add, Bk.ext_cells] at he
  have h1 : (0 : Int) ≤ k ∧ (k : Int) < ((30 : Nat) : Int) := by omega
  simp only [Instr.index, Sem.run_bind, asIntOf, Sem.run_pure, Result.andThen_ok, run_underlying Try.underlying53]
  rw [if_pos h1]
  simp only [Sem.run_bind, hs, Result.andThen_ok, part, ha, if_true, Int.toNat_natCast, Sem.run_pure]
  exact congrArg (fun x => Result.ok (Value.agg x) w) he
attribute [go_sem ↓] at_load53 at_alloc53
attribute [go_sem] run_load53 run_alloc53
end Go.Proofs.Ytkempjcdapfopaa
