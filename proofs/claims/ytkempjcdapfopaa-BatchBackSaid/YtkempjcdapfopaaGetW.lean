/- Bytes as numbers, by contract. Conditions: the bytes lie in memory as 'Bytes' says. -/
import Derived.Test.YtkempjcdapfopaaGoesW
import Derived.Laws.Closers25b
namespace Go.Proofs.Ytkempjcdapfopaa
open Go.RowKit
attribute [local go_sem ↓] Go.wp_at_zero Go.wp_at_succ
/-- a number, and one byte more below it -/
def or1 (z y : Int) : Int := bits BinOp.or IntKind.u64 (IntKind.u64.wrap (z * 256)) y
def getN (l : List Int) : Int := l.foldr (fun y z => or1 z y) 0
theorem getN_in (l : List Int) : 0 ≤ getN l ∧ getN l ≤ 18446744073709551615 := by
  cases l with
  | nil => exact ⟨by decide, by decide⟩
  | cons y l =>
    have a := bits_lo_u64 BinOp.or (IntKind.u64.wrap (getN l * 256)) y
    have b := bits_hi_u64 BinOp.or (IntKind.u64.wrap (getN l * 256)) y
    exact ⟨a, b⟩
theorem getN_drop {l : List Int} {k : Nat} (hk : k < l.length) : getN (l.drop k) = or1 (getN (l.drop (k + 1))) l[k] := by
  rw [List.drop_eq_getElem_cons hk]; rfl

set_option maxRecDepth 100000 in
set_option maxHeartbeats 1600000 in
theorem get59 (w : World) (B : Nat) (v : Value) (l : List Int) (h : Bytes w B v l) (hl : l.length ≤ 8) :
    Calls Try.prog 59 #[v] w fun e w' => e = .returned (.int .u32 (getN l % 4294967296)) ∧ w = w' := by
  have HV := hide h
  obtain ⟨A, c, rfl, _⟩ := h
  go_enter Try.func59, Try.ntmps59
  go_wp2
  go_loopw [4, 3] (fun i n wr => ∃ k : Nat, k ≤ l.length ∧ i = .int .i64 ((k : Int) - 1) ∧ n = .int .u64 (getN (l.drop k)) ∧ wr = w) (fun i _ _ => (intOf i + 1).toNat)
  case atStart => exact ⟨l.length, Nat.le_refl _, by go_num, by rw [List.drop_length]; rfl, rfl⟩
  case round =>
    obtain ⟨k, hk, rfl, rfl, rfl⟩ := hrel
    obtain ⟨z0, z1⟩ := getN_in (l.drop k)
    cases k with
    | zero =>
      rw [List.drop_zero] at z0 z1 ⊢
      generalize hz : getN l = z at z0 z1 ⊢
      have HZ := hide hz
      clear hz
      go_wp2
      go_ret
      exact ⟨by rw [HZ.out]; rfl, rfl⟩
    | succ k =>
      obtain ⟨A', c', hv, hz, ha⟩ := HV.out
      injection hv with hA _ hcc
      subst hA
      subst hcc
      obtain ⟨b, o, rfl, hbB, hc⟩ := ha (by omega)
      have hck := hc k (by omega)
      have hzk := hz _ (List.getElem_mem (show k < l.length by omega))
      have y0 := hzk.1
      have y1 := hzk.2
      have e1 : ((k + 1 : Nat) : Int) - 1 = k := by omega
      have hst := getN_drop (show k < l.length by omega)
      rw [e1]
      generalize l[k] = y at *
      generalize getN (l.drop (k + 1)) = z at *
      have HS := hide hst
      clear hc hz ha hzk e1 hst
      go_wp2
      go_roundw
      case rel => exact ⟨k, by omega, by go_num, by rw [HS.out]; rfl, trivial⟩
      case measure => simp [intOf]

set_option maxRecDepth 100000 in
set_option maxHeartbeats 1600000 in
theorem get60 (w : World) (B : Nat) (v : Value) (l : List Int) (h : Bytes w B v l) (hl : l.length ≤ 8) :
    Calls Try.prog 60 #[v] w fun e w' => e = .returned (.int .i64 (wrap64 (getN l))) ∧ w = w' := by
  have HV := hide h
  obtain ⟨A, c, rfl, _⟩ := h
  go_enter Try.func60, Try.ntmps60
  go_wp2
  go_loopw [4, 3] (fun i n wr => ∃ k : Nat, k ≤ l.length ∧ i = .int .i64 ((k : Int) - 1) ∧ n = .int .u64 (getN (l.drop k)) ∧ wr = w) (fun i _ _ => (intOf i + 1).toNat)
  case atStart => exact ⟨l.length, Nat.le_refl _, by go_num, by rw [List.drop_length]; rfl, rfl⟩
  case round =>
    obtain ⟨k, hk, rfl, rfl, rfl⟩ := hrel
    obtain ⟨z0, z1⟩ := getN_in (l.drop k)
    cases k with
    | zero =>
      rw [List.drop_zero] at z0 z1 ⊢
      generalize hz : getN l = z at z0 z1 ⊢
      have HZ := hide hz
      clear hz
      go_wp2
      go_ret
      exact ⟨by rw [HZ.out]; rfl, rfl⟩
    | succ k =>
      obtain ⟨A', c', hv, hz, ha⟩ := HV.out
      injection hv with hA _ hcc
      subst hA
      subst hcc
      obtain ⟨b, o, rfl, hbB, hc⟩ := ha (by omega)
      have hck := hc k (by omega)
      have hzk := hz _ (List.getElem_mem (show k < l.length by omega))
      have y0 := hzk.1
      have y1 := hzk.2
      have e1 : ((k + 1 : Nat) : Int) - 1 = k := by omega
      have hst := getN_drop (show k < l.length by omega)
      rw [e1]
      generalize l[k] = y at *
      generalize getN (l.drop (k + 1)) = z at *
      have HS := hide hst
      clear hc hz ha hzk e1 hst
      go_wp2
      go_roundw
      case rel => exact ⟨k, by omega, by go_num, by rw [HS.out]; rfl, trivial⟩
      case measure => simp [intOf]

set_option maxRecDepth 100000 in
set_option maxHeartbeats 1600000 in
theorem get61 (w : World) (B : Nat) (v : Value) (l : List Int) (h : Bytes w B v l) (hl : l.length ≤ 8) :
    Calls Try.prog 61 #[v] w fun e w' => e = .returned (.int .i64 (wrap64 (getN l))) ∧ w = w' := by
  have HV := hide h
  obtain ⟨A, c, rfl, _⟩ := h
  go_enter Try.func61, Try.ntmps61
  go_wp2
  go_loopw [4, 3] (fun i n wr => ∃ k : Nat, k ≤ l.length ∧ i = .int .i64 ((k : Int) - 1) ∧ n = .int .u64 (getN (l.drop k)) ∧ wr = w) (fun i _ _ => (intOf i + 1).toNat)
  case atStart => exact ⟨l.length, Nat.le_refl _, by go_num, by rw [List.drop_length]; rfl, rfl⟩
  case round =>
    obtain ⟨k, hk, rfl, rfl, rfl⟩ := hrel
    obtain ⟨z0, z1⟩ := getN_in (l.drop k)
    cases k with
    | zero =>
      rw [List.drop_zero] at z0 z1 ⊢
      generalize hz : getN l = z at z0 z1 ⊢
      have HZ := hide hz
      clear hz
      go_wp2
      go_ret
      exact ⟨by rw [HZ.out]; rfl, rfl⟩
    | succ k =>
      obtain ⟨A', c', hv, hz, ha⟩ := HV.out
      injection hv with hA _ hcc
      subst hA
      subst hcc
      obtain ⟨b, o, rfl, hbB, hc⟩ := ha (by omega)
      have hck := hc k (by omega)
      have hzk := hz _ (List.getElem_mem (show k < l.length by omega))
      have y0 := hzk.1
      have y1 := hzk.2
      have e1 : ((k + 1 : Nat) : Int) - 1 = k := by omega
      have hst := getN_drop (show k < l.length by omega)
      rw [e1]
      generalize l[k] = y at *
      generalize getN (l.drop (k + 1)) = z at *
      have HS := hide hst
      clear hc hz ha hzk e1 hst
      go_wp2
      go_roundw
      case rel => exact ⟨k, by omega, by go_num, by rw [HS.out]; rfl, trivial⟩
      case measure => simp [intOf]
end Go.Proofs.Ytkempjcdapfopaa
