/- Lines for the program, and the program's, by contract. Conditions: the lines lie in memory as 'LinesAt' says. -/
import Derived.Test.YtkempjcdapfopaaBatW
import Derived.Test.YtkempjcdapfopaaPutW
namespace Go.Proofs.Ytkempjcdapfopaa
open Go.RowKit
attribute [local go_sem ↓] Go.wp_at_zero Go.wp_at_succ
def lnV (l : List (Int × Int)) : List Value := l.flatMap (fun x => [.int .i64 x.1, .int .i64 x.2])
theorem lnV_len (l : List (Int × Int)) : (lnV l).length = l.length * 2 := by
  induction l with
  | nil => rfl
  | cons x l ih => simp [lnV] at ih ⊢; omega
theorem lnV_app (l m : List (Int × Int)) : lnV (l ++ m) = lnV l ++ lnV m := by simp [lnV]
theorem info118 : (Try.prog.info? 118).map (fun i => (i.zero, i.size, i.bytes)) = some (some (.agg #[.int .i64 0, .int .i64 0]), 2, 16) := by kernel_rfl
theorem info149 : (Try.prog.info? 149).map (fun i => (i.zero, i.size, i.bytes)) = some (some (.agg #[.int .i64 0, .int .i64 0]), 2, 16) := by kernel_rfl
/-- a row of lines that belongs to a call begun at w0 -/
def OwnL (e : TypeId) (w0 w : World) (v : Value) (l : List (Int × Int)) : Prop := w.ownsRow w0.heap.size e 2 v l.length (lnV l) ∧ Only [] w0 w

set_option maxRecDepth 100000 in
set_option maxHeartbeats 1600000 in
theorem to58 (w : World) (B : Nat) (v : Value) (l : List (Int × Int)) (h : LinesAt w B v l) (hB : B ≤ w.heap.size) (hl : l.length ≤ 1000000) :
    Calls Try.prog 58 #[v] w fun e w' => ∃ v' : Value, e = .returned v' ∧ OwnL 118 w w' v' l := by
  obtain ⟨i0, hi0, hz0, hz1, hz2⟩ := info_parts info118
  have HV := hide h
  obtain ⟨A, c, rfl, _⟩ := h
  go_enter Try.func58, Try.ntmps58
  go_wp2
  go_loopw [8, 3] (fun i v wr => ∃ k : Nat, k ≤ l.length ∧ i = .int .i64 k ∧ OwnL 118 w wr v (l.take k)) (fun i _ _ => l.length - (intOf i).toNat)
  case atStart => exact ⟨0, Nat.zero_le _, rfl, ⟨rfl, .inl ⟨rfl, rfl⟩⟩, Only.refl _ _⟩
  case round =>
    obtain ⟨k, hk, rfl, hown⟩ := hrel
    obtain ⟨m, hm⟩ : ∃ m, m = l.take k := ⟨_, rfl⟩
    rw [← hm] at hown
    have hml : m.length = k := by rw [hm, List.length_take]; omega
    obtain ⟨ao', cv', rfl⟩ := ownsRow_val hown.1
    have hsz := hown.2.size
    have ho := hown.2
    have HJ := hide (And.intro hown hm)
    clear hown hm
    by_cases hlt : k < l.length
    · obtain ⟨A', c', hv, hz, ha⟩ := HV.out
      injection hv with hA _ hcc
      subst hA
      subst hcc
      obtain ⟨b, o, rfl, hbB, hc⟩ := ha (by omega)
      have hbl : wr.heap[b]? = w.heap[b]? := ho.block b (by omega) (by simp)
      have c0 : wr.cell? ⟨b, o + k * 2, none⟩ = some (.int .i64 l[k].1) := by rw [← (hc k hlt).1]; exact World.cell?_of_block hbl
      have c1 : wr.cell? ⟨b, o + k * 2 + 1, none⟩ = some (.int .i64 l[k].2) := by rw [← (hc k hlt).2]; exact World.cell?_of_block hbl
      have htk : l.take (k + 1) = l.take k ++ [l[k]] := List.take_succ_eq_append_getElem hlt
      generalize l[k] = x at *
      obtain ⟨x1, x2⟩ := x
      simp only at *
      have HS := hide htk
      clear htk hc hz ha hbl ho
      go_wp2_with (first
        | (at_builtin; refine wpList_append_lies _ rfl _ _ 63 rfl w.heap.size 118 i0 (.agg #[.int .i64 0, .int .i64 0]) 2 16 Try.underlying63 hi0 hz0 hz1 hz2 rfl (by decide) _ m.length (lnV m) rfl ((HJ.out.1.1.alloc _).alloc _) ⟨wr.heap.size + 1, 0, none⟩ 1 1 [.int .i64 x1, .int .i64 x2] rfl rfl
             (World.news_of_block (cs := #[.int .i64 x1, .int .i64 x2]) (t := 118) (fr := (0, 0)) (by have := heap_alloc_new (wr.alloc (Obj.cells #[.int .i64 x1, .int .i64 x2] 149)) (Obj.cells #[.int .i64 x1, .int .i64 x2] 118); simpa using this)) (fun u hu => by simp at hu; rcases hu with rfl | rfl <;> rfl) (by decide) (by simp only [maxLen]; omega) (by omega) (by simp; omega) (wr.heap.size + 2) (by simp) ?_
           intro gg cap w8 hown8 hgrow hat hlt8
           have H8 := hide (And.intro hown8 (And.intro hgrow hat))
           clear hown8 hgrow hat hlt8))
      have e : l.take (k + 1) = m ++ [(x1, x2)] := by rw [HS.out, ← HJ.out.2]
      refine ⟨⟨k + 1, by omega, by go_num, ?_⟩, by simp only [intOf]; omega⟩
      rw [e]
      refine ⟨?_, ((HJ.out.1.2.alloc _).alloc _).grown H8.out.2.1 (fun k hk => .inr (HJ.out.1.1.lt k hk).1)⟩
      have h8 := H8.out.1
      rw [lnV_app, List.length_append, List.length_singleton]
      rw [hml] at h8 ⊢
      exact h8
    · have hkk : k = l.length := by omega
      subst hkk
      go_wp2
      go_ret
      have h9 := HJ.out.1
      rw [HJ.out.2, List.take_length] at h9
      refine ⟨_, rfl, ?_⟩
      rw [hml]
      exact h9

set_option maxRecDepth 100000 in
set_option maxHeartbeats 1600000 in
theorem to63 (w : World) (B : Nat) (v : Value) (l : List (Int × Int)) (h : LinesAt w B v l) (hB : B ≤ w.heap.size) (hl : l.length ≤ 1000000) :
    Calls Try.prog 63 #[v] w fun e w' => ∃ v' : Value, e = .returned v' ∧ OwnL 149 w w' v' l := by
  obtain ⟨i0, hi0, hz0, hz1, hz2⟩ := info_parts info149
  have HV := hide h
  obtain ⟨A, c, rfl, _⟩ := h
  go_enter Try.func63, Try.ntmps63
  go_wp2
  go_loopw [8, 3] (fun i v wr => ∃ k : Nat, k ≤ l.length ∧ i = .int .i64 k ∧ OwnL 149 w wr v (l.take k)) (fun i _ _ => l.length - (intOf i).toNat)
  case atStart => exact ⟨0, Nat.zero_le _, rfl, ⟨rfl, .inl ⟨rfl, rfl⟩⟩, Only.refl _ _⟩
  case round =>
    obtain ⟨k, hk, rfl, hown⟩ := hrel
    obtain ⟨m, hm⟩ : ∃ m, m = l.take k := ⟨_, rfl⟩
    rw [← hm] at hown
    have hml : m.length = k := by rw [hm, List.length_take]; omega
    obtain ⟨ao', cv', rfl⟩ := ownsRow_val hown.1
    have hsz := hown.2.size
    have ho := hown.2
    have HJ := hide (And.intro hown hm)
    clear hown hm
    by_cases hlt : k < l.length
    · obtain ⟨A', c', hv, hz, ha⟩ := HV.out
      injection hv with hA _ hcc
      subst hA
      subst hcc
      obtain ⟨b, o, rfl, hbB, hc⟩ := ha (by omega)
      have hbl : wr.heap[b]? = w.heap[b]? := ho.block b (by omega) (by simp)
      have c0 : wr.cell? ⟨b, o + k * 2, none⟩ = some (.int .i64 l[k].1) := by rw [← (hc k hlt).1]; exact World.cell?_of_block hbl
      have c1 : wr.cell? ⟨b, o + k * 2 + 1, none⟩ = some (.int .i64 l[k].2) := by rw [← (hc k hlt).2]; exact World.cell?_of_block hbl
      have htk : l.take (k + 1) = l.take k ++ [l[k]] := List.take_succ_eq_append_getElem hlt
      generalize l[k] = x at *
      obtain ⟨x1, x2⟩ := x
      simp only at *
      have HS := hide htk
      clear htk hc hz ha hbl ho
      go_wp2_with (first
        | (at_builtin; refine wpList_append_lies _ rfl _ _ 57 rfl w.heap.size 149 i0 (.agg #[.int .i64 0, .int .i64 0]) 2 16 Try.underlying57 hi0 hz0 hz1 hz2 rfl (by decide) _ m.length (lnV m) rfl ((HJ.out.1.1.alloc _).alloc _) ⟨wr.heap.size + 1, 0, none⟩ 1 1 [.int .i64 x1, .int .i64 x2] rfl rfl
             (World.news_of_block (cs := #[.int .i64 x1, .int .i64 x2]) (t := 149) (fr := (0, 0)) (by have := heap_alloc_new (wr.alloc (Obj.cells #[.int .i64 x1, .int .i64 x2] 118)) (Obj.cells #[.int .i64 x1, .int .i64 x2] 149); simpa using this)) (fun u hu => by simp at hu; rcases hu with rfl | rfl <;> rfl) (by decide) (by simp only [maxLen]; omega) (by omega) (by simp; omega) (wr.heap.size + 2) (by simp) ?_
           intro gg cap w8 hown8 hgrow hat hlt8
           have H8 := hide (And.intro hown8 (And.intro hgrow hat))
           clear hown8 hgrow hat hlt8))
      have e : l.take (k + 1) = m ++ [(x1, x2)] := by rw [HS.out, ← HJ.out.2]
      refine ⟨⟨k + 1, by omega, by go_num, ?_⟩, by simp only [intOf]; omega⟩
      rw [e]
      refine ⟨?_, ((HJ.out.1.2.alloc _).alloc _).grown H8.out.2.1 (fun k hk => .inr (HJ.out.1.1.lt k hk).1)⟩
      have h8 := H8.out.1
      rw [lnV_app, List.length_append, List.length_singleton]
      rw [hml] at h8 ⊢
      exact h8
    · have hkk : k = l.length := by omega
      subst hkk
      go_wp2
      go_ret
      have h9 := HJ.out.1
      rw [HJ.out.2, List.take_length] at h9
      refine ⟨_, rfl, ?_⟩
      rw [hml]
      exact h9
end Go.Proofs.Ytkempjcdapfopaa
