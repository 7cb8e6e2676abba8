/- What is put is got, and what is got is put as it was, in plain Lean. Conditions: none beyond those of each lemma. -/
import Derived.Test.YtkempjcdapfopaaGtW
namespace Go.Proofs.Ytkempjcdapfopaa
open Go.RowKit

theorem le4 (n : Int) : le n 4 = [putB n 0, putB n 1, putB n 2, putB n 3] := rfl
theorem le_digs {a b : Int} (k : Nat) (h : IntKind.u64.wrap a = b) : le a k = (List.range k).map (fun i => b / 2 ^ (8 * i) % 256) := by
  unfold le putB
  rw [h]
theorem digs_val : ∀ (y : List Int), (∀ z ∈ y, 0 ≤ z ∧ z < 256) → (List.range y.length).map (fun i => valL y / 2 ^ (8 * i) % 256) = y
  | [], _ => rfl
  | a :: t, h => by
    have ih := digs_val t (fun x hx => h x (by simp [hx]))
    have ha := h a (by simp)
    rw [List.length_cons, List.range_succ_eq_map, List.map_cons, List.map_map]
    congr 1
    · simp only [valL, Nat.mul_zero, Int.pow_zero, Int.ediv_one]; omega
    · refine Eq.trans ?_ ih
      apply List.map_congr_left
      intro i _
      simp only [Function.comp_apply, valL]
      have e1 : (2 : Int) ^ (8 * Nat.succ i) = 256 * 2 ^ (8 * i) := by
        rw [show 8 * Nat.succ i = 8 + 8 * i from by omega, Int.pow_add]
        rfl
      rw [e1, ← Int.ediv_ediv_of_nonneg (by decide), show (valL t * 256 + a) / 256 = valL t from by omega]
theorem wrap_u64_in {n : Int} (h0 : 0 ≤ n) (h1 : n < 18446744073709551616) : IntKind.u64.wrap n = n := IntWalk.u64_in n (by omega)
theorem wrap_u64_wrap64 {n : Int} (h0 : 0 ≤ n) (h1 : n < 18446744073709551616) : IntKind.u64.wrap (wrap64 n) = n := by
  rw [IntKind.wrap_u64]
  unfold wrap64
  omega
theorem pow256_4 : (256 : Int) ^ 4 = 4294967296 := by decide
theorem pow256_8 : (256 : Int) ^ 8 = 18446744073709551616 := by decide
theorem le_val4 {y : List Int} (h : ∀ z ∈ y, 0 ≤ z ∧ z < 256) (hl : y.length = 4) : le (valL y) 4 = y := by
  have hv := valL_in y h
  rw [hl, pow256_4] at hv
  rw [le_digs 4 (wrap_u64_in hv.1 (by omega))]
  have hd := digs_val y h
  rw [hl] at hd
  exact hd
theorem le_val8 {y : List Int} (h : ∀ z ∈ y, 0 ≤ z ∧ z < 256) (hl : y.length = 8) : le (wrap64 (valL y)) 8 = y := by
  have hv := valL_in y h
  rw [hl, pow256_8] at hv
  rw [le_digs 8 (wrap_u64_wrap64 hv.1 hv.2)]
  have hd := digs_val y h
  rw [hl] at hd
  exact hd
theorem val_le4 {n : Int} (h0 : 0 ≤ n) (h1 : n < 4294967296) : valL (le n 4) = n := by
  rw [valL_le, wrap_u64_in h0 (by omega), pow256_4, Int.emod_eq_of_lt h0 h1]
theorem val_le8 {n : Int} (h0 : -9223372036854775808 ≤ n) (h1 : n ≤ 9223372036854775807) : wrap64 (valL (le n 8)) = n := by
  rw [valL_le, pow256_8, IntKind.wrap_u64]
  unfold wrap64
  omega

theorem putL_len (s e : Int) (l : List (Int × Int)) : (putL s e l).length = 15 + 9 * l.length := by
  rw [putL, List.length_append, bodyL_len, le_len]; omega
/-- a batch's bytes, one by one -/
theorem putL_eq (s e : Int) (l : List (Int × Int)) : putL s e l = 76 :: 66 :: putB s 0 :: putB s 1 :: putB s 2 :: putB s 3 :: putB e 0 :: putB e 1 :: putB e 2 :: putB e 3 :: (l.length : Int) :: (l.flatMap enc1 ++ le (sumF (bodyL s e l)) 4) := by
  rw [putL]
  conv => lhs; arg 1; rw [bodyL, headL, le4, le4]
  rfl
theorem take_len {a b : List Int} {n : Nat} (h : a.length = n) : (a ++ b).take n = a := by subst h; simp
theorem drop_len {a b : List Int} {n : Nat} (h : a.length = n) : (a ++ b).drop n = b := by subst h; simp
theorem encs_drop (t : List Int) : ∀ (l : List (Int × Int)) (k : Nat) (h : k < l.length), (l.flatMap enc1 ++ t).drop (9 * k) = enc1 l[k] ++ ((l.drop (k + 1)).flatMap enc1 ++ t)
  | [], k, h => by simp at h
  | x :: l, 0, _ => by simp [List.flatMap_cons, List.append_assoc]
  | x :: l, k + 1, h => by
    have ih := encs_drop t l k (by simpa using h)
    rw [List.flatMap_cons, List.append_assoc, show 9 * (k + 1) = (enc1 x).length + 9 * k from by rw [enc1_len]; omega, ← List.drop_drop, drop_len rfl]
    simpa using ih
theorem lineAt_put (s e : Int) (l : List (Int × Int)) (k : Nat) (h : k < l.length) (hz : -9223372036854775808 ≤ l[k].2 ∧ l[k].2 ≤ 9223372036854775807) : lineAt (putL s e l) k = l[k] := by
  have hd : (putL s e l).drop (11 + 9 * k) = enc1 l[k] ++ ((l.drop (k + 1)).flatMap enc1 ++ le (sumF (bodyL s e l)) 4) := by
    rw [putL_eq, show 11 + 9 * k = 9 * k + 11 from by omega]
    simp only [List.drop_succ_cons]
    exact encs_drop _ l k h
  have h0 : (putL s e l).getD (11 + 9 * k) 0 = l[k].1 := by
    have := congrArg (fun z => z.getD 0 0) hd
    simpa [enc1, List.getD] using this
  have h1 : (putL s e l).drop (12 + 9 * k) = le l[k].2 8 ++ ((l.drop (k + 1)).flatMap enc1 ++ le (sumF (bodyL s e l)) 4) := by
    have := congrArg (fun z => z.drop 1) hd
    rw [show 12 + 9 * k = (11 + 9 * k) + 1 from by omega, ← List.drop_drop]
    simpa [enc1] using this
  unfold lineAt
  rw [h0, h1, take_len (le_len _ _), val_le8 hz.1 hz.2]
theorem sum_len (s e : Int) (l : List (Int × Int)) : (putL s e l).take ((putL s e l).length - 4) = bodyL s e l ∧ (putL s e l).drop ((putL s e l).length - 4) = le (sumF (bodyL s e l)) 4 := by
  have hl : (bodyL s e l).length = (putL s e l).length - 4 := by rw [putL_len, bodyL_len]; omega
  rw [← hl]
  unfold putL
  exact ⟨take_len rfl, drop_len rfl⟩

/-- what is put is got -/
theorem get_put {s e : Int} {l : List (Int × Int)} (h : bchk s e l = 0) : getC (putL s e l) = 0 ∧ getS (putL s e l) = s ∧ getE (putL s e l) = e ∧ linesOf (putL s e l) = l := by
  obtain ⟨⟨s0, s1, e0, e1⟩, hl, hok⟩ := bchk_ok h
  have hS : getS (putL s e l) = s := by
    unfold getS
    rw [putL_eq]
    simp only [List.drop_succ_cons, List.drop_zero, List.take_succ_cons, List.take_zero]
    rw [← le4]
    exact val_le4 s0 (by omega)
  have hE : getE (putL s e l) = e := by
    unfold getE
    rw [putL_eq]
    simp only [List.drop_succ_cons, List.drop_zero, List.take_succ_cons, List.take_zero]
    rw [← le4]
    exact val_le4 e0 (by omega)
  have hc : cnt (putL s e l) = l.length := by
    unfold cnt
    rw [putL_eq]
    simp
  have hL : linesOf (putL s e l) = l := by
    unfold linesOf
    rw [hc]
    apply List.ext_getElem (by simp)
    intro k h1 h2
    have hx := okLine_in (hok _ (List.getElem_mem h2))
    simp only [List.getElem_map, List.getElem_range]
    exact lineAt_put s e l k h2 (by omega)
  refine ⟨?_, hS, hE, hL⟩
  obtain ⟨hb, hs⟩ := sum_len s e l
  have hv := sumF_in (bodyL s e l)
  rw [getC_eq, hb, hs, hS, hE, hL, hc, val_le4 hv.1 hv.2, putL_len, if_neg (by omega), if_neg, if_neg (by omega), if_neg (by omega), if_neg (by simp), if_neg (by simp [h])]
  rw [putL_eq]
  simp

theorem bytes_mem {x : List Int} (h : ∀ z ∈ x, 0 ≤ z ∧ z < 256) (k m : Nat) : ∀ z ∈ (x.drop k).take m, 0 ≤ z ∧ z < 256 := fun z hz => h z (List.mem_of_mem_drop (List.mem_of_mem_take hz))
theorem take_more (y : List Int) (a b : Nat) : y.take a ++ (y.drop a).take b = y.take (a + b) := by rw [List.take_add]
theorem lines_got {x : List Int} (h : ∀ z ∈ x, 0 ≤ z ∧ z < 256) : ∀ k : Nat, 11 + 9 * k ≤ x.length → ((List.range k).map (lineAt x)).flatMap enc1 = (x.drop 11).take (9 * k)
  | 0, _ => by simp
  | k + 1, hk => by
    have ih := lines_got h k (by omega)
    have h11 : 11 + 9 * k < x.length := by omega
    rw [List.range_succ, List.map_append, List.flatMap_append, ih, show 9 * (k + 1) = 9 * k + 9 from by omega, ← take_more]
    congr 1
    simp only [List.map_cons, List.map_nil, List.flatMap_cons, List.flatMap_nil, List.append_nil]
    have h8 : ((x.drop (12 + 9 * k)).take 8).length = 8 := by simp; omega
    unfold enc1 lineAt
    simp only
    rw [le_val8 (bytes_mem h _ _) h8, getD_eq h11, List.drop_drop, List.drop_eq_getElem_cons h11, show 11 + 9 * k + 1 = 12 + 9 * k from by omega]
    rfl
/-- what is got is put as it was -/
theorem put_get {x : List Int} (h : ∀ z ∈ x, 0 ≤ z ∧ z < 256) (hc : getC x = 0) : bchk (getS x) (getE x) (linesOf x) = 0 ∧ putL (getS x) (getE x) (linesOf x) = x := by
  rw [getC_eq] at hc
  by_cases h1 : x.length < 15
  · rw [if_pos h1] at hc; cases hc
  rw [if_neg h1] at hc
  by_cases h2 : x.getD 0 0 ≠ 76 ∨ x.getD 1 0 ≠ 66
  · rw [if_pos h2] at hc; cases hc
  rw [if_neg h2] at hc
  by_cases h3 : x.length < 15 + 9 * cnt x
  · rw [if_pos h3] at hc; cases hc
  rw [if_neg h3] at hc
  by_cases h4 : 15 + 9 * cnt x < x.length
  · rw [if_pos h4] at hc; cases hc
  rw [if_neg h4] at hc
  by_cases h5 : valL (x.drop (x.length - 4)) ≠ sumF (x.take (x.length - 4))
  · rw [if_pos h5] at hc; cases hc
  rw [if_neg h5] at hc
  by_cases h6 : bchk (getS x) (getE x) (linesOf x) ≠ 0
  · rw [if_pos h6] at hc; cases hc
  have h5' : valL (x.drop (x.length - 4)) = sumF (x.take (x.length - 4)) := Classical.not_not.1 h5
  have h6' : bchk (getS x) (getE x) (linesOf x) = 0 := Classical.not_not.1 h6
  refine ⟨h6', ?_⟩
  have ha : x.getD 0 0 = 76 := Classical.not_not.1 (fun g => h2 (.inl g))
  have hb : x.getD 1 0 = 66 := Classical.not_not.1 (fun g => h2 (.inr g))
  have hcn : ((cnt x : Nat) : Int) = x.getD 10 0 := by
    unfold cnt
    have := h _ (List.getElem_mem (show 10 < x.length by omega))
    rw [getD_eq (show 10 < x.length by omega)]
    omega
  have hll : (linesOf x).length = cnt x := by simp [linesOf]
  have hle4s : le (getS x) 4 = (x.drop 2).take 4 := le_val4 (bytes_mem h _ _) (by simp; omega)
  have hle4e : le (getE x) 4 = (x.drop 6).take 4 := le_val4 (bytes_mem h _ _) (by simp; omega)
  have hen : (linesOf x).flatMap enc1 = (x.drop 11).take (9 * cnt x) := lines_got h (cnt x) (by omega)
  have hbody : bodyL (getS x) (getE x) (linesOf x) = x.take (x.length - 4) := by
    unfold bodyL headL
    rw [hle4s, hle4e, hen, hll, hcn, getD_eq (show 10 < x.length by omega)]
    have e0 : [76, 66] = x.take 2 := by
      rw [getD_eq (show 0 < x.length by omega)] at ha
      rw [getD_eq (show 1 < x.length by omega)] at hb
      rw [List.take_succ_eq_append_getElem (show 1 < x.length by omega), List.take_succ_eq_append_getElem (show 0 < x.length by omega), ha, hb]
      rfl
    have e1 : [x[10]'(by omega)] = (x.drop 10).take 1 := by rw [List.drop_eq_getElem_cons (show 10 < x.length by omega)]; rfl
    rw [e0, e1, take_more, take_more, take_more, take_more, show 2 + 4 + 4 + 1 + 9 * cnt x = x.length - 4 from by omega]
  have hsum : le (sumF (bodyL (getS x) (getE x) (linesOf x))) 4 = x.drop (x.length - 4) := by
    rw [hbody, ← h5']
    refine le_val4 (fun z hz => h z (List.mem_of_mem_drop hz)) (by simp; omega)
  unfold putL
  rw [hsum, hbody, List.take_append_drop]
/-- shorter bytes, longer bytes -/
theorem get_less {s e : Int} {l : List (Int × Int)} (k : Nat) (hk : k < (putL s e l).length) : getC ((putL s e l).take k) = 14 := by
  have hl := putL_len s e l
  have hlk : ((putL s e l).take k).length = k := by rw [List.length_take]; omega
  rw [getC_eq, hlk]
  by_cases h1 : k < 15
  · rw [if_pos h1]
  rw [if_neg h1]
  have hc : cnt ((putL s e l).take k) = l.length := by
    unfold cnt
    rw [List.getD, List.getElem?_take, if_pos (by omega), putL_eq]
    simp
  have h2 : ¬ (((putL s e l).take k).getD 0 0 ≠ 76 ∨ ((putL s e l).take k).getD 1 0 ≠ 66) := by
    have a : ((putL s e l).take k).getD 0 0 = 76 := by
      rw [List.getD, List.getElem?_take, if_pos (by omega), putL_eq]; rfl
    have b : ((putL s e l).take k).getD 1 0 = 66 := by
      rw [List.getD, List.getElem?_take, if_pos (by omega), putL_eq]; rfl
    rw [a, b]; decide
  rw [hc, if_neg h2, if_pos (by omega)]
theorem get_more {s e : Int} {l : List (Int × Int)} (z : Int) : getC (putL s e l ++ [z]) = 6 := by
  have hl := putL_len s e l
  have hlk : (putL s e l ++ [z]).length = 16 + 9 * l.length := by rw [List.length_append, hl]; simp; omega
  have hc : cnt (putL s e l ++ [z]) = l.length := by
    unfold cnt
    rw [putL_eq]
    simp
  rw [getC_eq, hlk, hc, if_neg (by omega)]
  by_cases h2 : (putL s e l ++ [z]).getD 0 0 ≠ 76 ∨ (putL s e l ++ [z]).getD 1 0 ≠ 66
  · rw [if_pos h2]
  rw [if_neg h2, if_neg (by omega), if_pos (by omega)]
end Go.Proofs.Ytkempjcdapfopaa
