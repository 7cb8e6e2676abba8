/- The same bytes are told the same, by contract. Conditions: both rows lie in memory as 'Bytes' says. -/
import Derived.Test.YtkempjcdapfopaaToW
namespace Go.Proofs.Ytkempjcdapfopaa
open Go.RowKit
attribute [local go_sem ↓] Go.wp_at_zero Go.wp_at_succ
set_option maxRecDepth 100000 in
set_option maxHeartbeats 1600000 in
theorem bytes_same (w : World) (B : Nat) (v v' : Value) (l : List Int) (h : Bytes w B v l) (h' : Bytes w B v' l) (hB : B ≤ w.heap.size) (hl : l.length ≤ 1000000) :
    Calls Try.prog 35 #[v, v'] w fun e w' => e = .returned (.bool true) ∧ Only [] w w' := by
  have HV := hide (And.intro h h')
  obtain ⟨A, c, rfl, _⟩ := h
  obtain ⟨A', c', rfl, _⟩ := h'
  go_enter Try.func35, Try.ntmps35
  go_wp2
  go_loopw [13] (fun i wr => ∃ k : Nat, k ≤ l.length ∧ i = .int .i64 k ∧ Only [] w wr) (fun i _ => l.length - (intOf i).toNat)
  case atStart => exact ⟨0, Nat.zero_le _, rfl, Only.refl _ _⟩
  case round =>
    obtain ⟨k, hk, rfl, ho⟩ := hrel
    by_cases hlt : k < l.length
    · obtain ⟨⟨A1, c1, hv1, hz, ha⟩, A2, c2, hv2, _, hb⟩ := HV.out
      injection hv1 with hA1 _ hc1
      injection hv2 with hA2 _ hc2
      subst hA1 hc1 hA2 hc2
      obtain ⟨b, o, rfl, hbB, hcb⟩ := ha (by omega)
      obtain ⟨b', o', rfl, hbB', hcb'⟩ := hb (by omega)
      have k0 : wr.cell? ⟨b, o + k, none⟩ = some (.int .u8 l[k]) := by rw [← hcb k hlt]; exact World.cell?_of_block (ho.block b (by omega) (by simp))
      have k1 : wr.cell? ⟨b', o' + k, none⟩ = some (.int .u8 l[k]) := by rw [← hcb' k hlt]; exact World.cell?_of_block (ho.block b' (by omega) (by simp))
      generalize l[k] = y at *
      have HS := hide ho
      clear hcb hcb' hz ha hb ho
      go_wp2_with fail
      refine wp_lone (by kernel_rfl) (by kernel_rfl) ?_
      repeat still_step
      refine wpStill_nil ?_
      go_wp2
      go_roundw
      case rel => exact ⟨k + 1, by omega, by go_num, HS.out.drew⟩
      case measure => simp [intOf]; omega
    · have hge : (l.length : Int) ≤ (k : Int) := by omega
      have HS := hide ho
      clear ho
      go_wp2
      go_ret
      exact ⟨rfl, HS.out⟩
end Go.Proofs.Ytkempjcdapfopaa
