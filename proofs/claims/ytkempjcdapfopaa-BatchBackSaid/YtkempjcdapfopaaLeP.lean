/- Numbers as bytes and back, in plain Lean. Conditions: none beyond those of each lemma. -/
import Derived.Test.YtkempjcdapfopaaPutW
import Derived.Test.YtkempjcdapfopaaGetW
import Derived.Laws.Bits64b
namespace Go.Proofs.Ytkempjcdapfopaa
open Go.RowKit

theorem or1_eq {z y : Int} (h0 : 0 ≤ z) (h1 : z < 72057594037927936) (y0 : 0 ≤ y) (y1 : y < 256) : or1 z y = z * 256 + y := by
  obtain ⟨a, rfl⟩ := Int.eq_ofNat_of_zero_le h0
  obtain ⟨b, rfl⟩ := Int.eq_ofNat_of_zero_le y0
  have hw : IntKind.u64.wrap ((a : Int) * 256) = ((a * 256 : Nat) : Int) := by
    rw [IntWalk.u64_in _ (by omega)]; omega
  unfold or1
  rw [hw]
  have := bits_or_u64_nat (a * 256) b (by omega) (by omega)
  rw [this]
  have h2 := Nat.shiftLeft_add_eq_or_of_lt (i := 8) (b := b) (by omega) a
  rw [Nat.shiftLeft_eq] at h2
  rw [show (256 : Nat) = 2 ^ 8 from rfl, ← h2]
  simp
/-- the number that bytes are, the lowest first -/
def valL : List Int → Int
  | [] => 0
  | y :: l => valL l * 256 + y
theorem valL_in : ∀ (l : List Int), (∀ y ∈ l, 0 ≤ y ∧ y < 256) → 0 ≤ valL l ∧ valL l < 256 ^ l.length
  | [], _ => by simp [valL]
  | y :: l, h => by
    have ih := valL_in l (fun x hx => h x (by simp [hx]))
    have hy := h y (by simp)
    have e : (256 : Int) ^ (y :: l).length = 256 ^ l.length * 256 := by rw [List.length_cons, Int.pow_succ]
    rw [e]
    simp only [valL]
    omega
theorem pow_le7 {n : Nat} (h : n ≤ 7) : (256 : Int) ^ n ≤ 72057594037927936 := by
  match n, h with
  | 0, _ => decide
  | 1, _ => decide
  | 2, _ => decide
  | 3, _ => decide
  | 4, _ => decide
  | 5, _ => decide
  | 6, _ => decide
  | 7, _ => decide
theorem getN_val : ∀ (l : List Int), (∀ y ∈ l, 0 ≤ y ∧ y < 256) → l.length ≤ 8 → getN l = valL l
  | [], _, _ => rfl
  | y :: l, h, hl => by
    have hs : ∀ x ∈ l, 0 ≤ x ∧ x < 256 := fun x hx => h x (by simp [hx])
    have ih := getN_val l hs (by simp at hl; omega)
    have hb := valL_in l hs
    have hy := h y (by simp)
    have hp := pow_le7 (n := l.length) (by simp at hl; omega)
    show or1 (getN l) y = valL l * 256 + y
    rw [ih]
    exact or1_eq hb.1 (by omega) hy.1 hy.2
theorem putB_in (n : Int) (k : Nat) : 0 ≤ putB n k ∧ putB n k < 256 := by
  unfold putB
  omega
theorem le_bytes (n : Int) (size : Nat) : ∀ y ∈ le n size, 0 ≤ y ∧ y < 256 := by
  intro y hy
  simp only [le, List.mem_map] at hy
  obtain ⟨k, _, rfl⟩ := hy
  exact putB_in n k
theorem valL_app : ∀ (l m : List Int), valL (l ++ m) = valL l + 256 ^ l.length * valL m
  | [], m => by simp [valL]
  | y :: l, m => by
    rw [List.cons_append, valL, valL_app l m, valL, List.length_cons, Int.pow_succ]
    generalize (256 : Int) ^ l.length = p
    rw [Int.add_mul, Int.mul_right_comm]
    omega
theorem valL_le (n : Int) : ∀ k : Nat, valL (le n k) = IntKind.u64.wrap n % 256 ^ k
  | 0 => by simp [le, valL]
  | k + 1 => by
    rw [le_succ, valL_app, valL_le n k, le_len]
    have e : (2 : Int) ^ (8 * k) = 256 ^ k := by rw [Int.pow_mul]; rfl
    simp only [valL, putB, e, Int.pow_succ]
    rw [Int.zero_mul, Int.zero_add]
    have hp : (0 : Int) ≤ 256 ^ k := Int.pow_nonneg (by decide)
    generalize IntKind.u64.wrap n = a
    generalize (256 : Int) ^ k = p at hp
    rw [Int.emod_def a p, Int.emod_def (a / p) 256, Int.emod_def a (p * 256), ← Int.ediv_ediv_of_nonneg hp, Int.mul_sub, Int.mul_assoc]
    omega
end Go.Proofs.Ytkempjcdapfopaa
