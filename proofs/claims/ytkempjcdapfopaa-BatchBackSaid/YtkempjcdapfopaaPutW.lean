/- Numbers as bytes, by contract. Conditions: the row of bytes belongs to the call, as 'ownsRow' says. -/
import Derived.Test.YtkempjcdapfopaaGoesW
import Derived.IntWalk
namespace Go.Proofs.Ytkempjcdapfopaa
open Go.RowKit
attribute [local go_sem ↓] Go.wp_at_zero Go.wp_at_succ

/-- bytes as cells -/
def byV (l : List Int) : List Value := l.map (Value.int .u8)
theorem byV_len (l : List Int) : (byV l).length = l.length := by simp [byV]
theorem byV_app (l m : List Int) : byV (l ++ m) = byV l ++ byV m := by simp [byV]
/-- a byte of a number -/
def putB (n : Int) (k : Nat) : Int := IntKind.u64.wrap n / 2 ^ (8 * k) % 256
def le (n : Int) (size : Nat) : List Int := (List.range size).map (putB n)
theorem le_len (n : Int) (size : Nat) : (le n size).length = size := by simp [le]
theorem le_succ (n : Int) (k : Nat) : le n (k + 1) = le n k ++ [putB n k] := by simp [le, List.range_succ]
/-- a row of bytes that belongs to a call begun at w0 -/
def OwnB (w0 w : World) (v : Value) (l : List Int) : Prop := w.ownsRow w0.heap.size 5 1 v l.length (byV l) ∧ Only [] w0 w
theorem OwnB.only {w0 w w' : World} {v : Value} {l : List Int} (h : OwnB w0 w v l) (ho : Only [] w w') : OwnB w0 w' v l := ⟨ownsRow_only h.1 ho (by simp), h.2.new ho (by simp)⟩

set_option maxRecDepth 100000 in
set_option maxHeartbeats 1600000 in
theorem put55 (w0 w : World) (v : Value) (l : List Int) (n : Int) (size : Nat) (h0 : -9223372036854775808 ≤ n) (h1 : n ≤ 9223372036854775807) (h : OwnB w0 w v l) (hs : size ≤ 8) (hl : l.length ≤ 1000000) :
    Calls Try.prog 55 #[v, .int .i64 n, .int .i64 size] w fun e w' => ∃ v' : Value, e = .returned v' ∧ OwnB w0 w' v' (l ++ le n size) ∧ Only [] w0 w' := by
  obtain ⟨i0, hi0, hz0, hz1, hz2⟩ := info_parts info5
  obtain ⟨ao, cv, rfl⟩ := ownsRow_val h.1
  have HW := hide h
  clear h
  go_enter Try.func55, Try.ntmps55
  go_wp2
  go_loopw [9, 0] (fun i v wr => ∃ k : Nat, k ≤ size ∧ i = .int .i64 k ∧ OwnB w0 wr v (l ++ le n k)) (fun i _ _ => size - (intOf i).toNat)
  case atStart => exact ⟨0, Nat.zero_le _, rfl, by simpa [le] using HW.out⟩
  case round =>
    obtain ⟨k, hk, rfl, hown⟩ := hrel
    obtain ⟨m, hm⟩ : ∃ m, m = l ++ le n k := ⟨_, rfl⟩
    rw [← hm] at hown
    have hml : m.length = l.length + k := by rw [hm, List.length_append, le_len]
    obtain ⟨ao', cv', rfl⟩ := ownsRow_val hown.1
    have hsz := hown.2.size
    have HJ := hide (And.intro hown hm)
    clear hown hm
    by_cases hlt : k < size
    · obtain ⟨y, hy⟩ : ∃ y, y = IntKind.u64.wrap n / 2 ^ (8 * k) % 256 := ⟨_, rfl⟩
      have hyp : putB n k = y := by rw [hy]; rfl
      have HY := hide (And.intro hyp hy)
      clear hyp hy
      go_wp2_with (first
        | (at_builtin; refine wpList_append_lies _ rfl _ _ 32 rfl w0.heap.size 5 i0 (.int .u8 0) 1 1 Try.underlying32 hi0 hz0 hz1 hz2 rfl (by decide) _ m.length (byV m) rfl (HJ.out.1.1.alloc _) ⟨wr.heap.size, 0, none⟩ 1 1 [.int .u8 (IntKind.u64.wrap n / 2 ^ (8 * k) % 256)] rfl rfl
             (World.news_of_block (cs := #[.int .u8 (IntKind.u64.wrap n / 2 ^ (8 * k) % 256)]) (t := 5) (fr := (0, 0)) (heap_alloc_new _ _)) (fun u hu => by simp at hu; subst hu; rfl) (by decide) (by simp only [maxLen]; omega) (by omega) (by simp; omega) (wr.heap.size + 1) (by simp) ?_
           intro gg cap w8 hown8 hgrow hat hlt8
           have H8 := hide (And.intro hown8 (And.intro hgrow hat))
           clear hown8 hgrow hat hlt8))
      have e : l ++ le n (k + 1) = m ++ [IntKind.u64.wrap n / 2 ^ (8 * k) % 256] := by rw [le_succ, ← List.append_assoc, ← HJ.out.2, HY.out.1, HY.out.2]
      refine ⟨⟨k + 1, by omega, by go_num, ?_⟩, by simp only [intOf]; omega⟩
      rw [e]
      refine ⟨?_, (HJ.out.1.2.alloc _).grown H8.out.2.1 (fun k hk => .inr (HJ.out.1.1.lt k hk).1)⟩
      have h8 := H8.out.1
      rw [byV_app, List.length_append, List.length_singleton]
      rw [hml] at h8 ⊢
      exact h8
    · have hkk : k = size := by omega
      subst hkk
      go_wp2
      go_ret
      have h9 := HJ.out.1
      refine ⟨_, rfl, ?_, h9.2⟩
      rw [← HJ.out.2]
      exact h9

set_option maxRecDepth 100000 in
set_option maxHeartbeats 1600000 in
theorem put56 (w0 w : World) (v : Value) (l : List Int) (n : Int) (size : Nat) (h0 : -9223372036854775808 ≤ n) (h1 : n ≤ 9223372036854775807) (h : OwnB w0 w v l) (hs : size ≤ 8) (hl : l.length ≤ 1000000) :
    Calls Try.prog 56 #[v, .int .i64 n, .int .i64 size] w fun e w' => ∃ v' : Value, e = .returned v' ∧ OwnB w0 w' v' (l ++ le n size) ∧ Only [] w0 w' := by
  obtain ⟨i0, hi0, hz0, hz1, hz2⟩ := info_parts info5
  obtain ⟨ao, cv, rfl⟩ := ownsRow_val h.1
  have HW := hide h
  clear h
  go_enter Try.func56, Try.ntmps56
  go_wp2
  go_loopw [9, 0] (fun i v wr => ∃ k : Nat, k ≤ size ∧ i = .int .i64 k ∧ OwnB w0 wr v (l ++ le n k)) (fun i _ _ => size - (intOf i).toNat)
  case atStart => exact ⟨0, Nat.zero_le _, rfl, by simpa [le] using HW.out⟩
  case round =>
    obtain ⟨k, hk, rfl, hown⟩ := hrel
    obtain ⟨m, hm⟩ : ∃ m, m = l ++ le n k := ⟨_, rfl⟩
    rw [← hm] at hown
    have hml : m.length = l.length + k := by rw [hm, List.length_append, le_len]
    obtain ⟨ao', cv', rfl⟩ := ownsRow_val hown.1
    have hsz := hown.2.size
    have HJ := hide (And.intro hown hm)
    clear hown hm
    by_cases hlt : k < size
    · obtain ⟨y, hy⟩ : ∃ y, y = IntKind.u64.wrap n / 2 ^ (8 * k) % 256 := ⟨_, rfl⟩
      have hyp : putB n k = y := by rw [hy]; rfl
      have HY := hide (And.intro hyp hy)
      clear hyp hy
      go_wp2_with (first
        | (at_builtin; refine wpList_append_lies _ rfl _ _ 32 rfl w0.heap.size 5 i0 (.int .u8 0) 1 1 Try.underlying32 hi0 hz0 hz1 hz2 rfl (by decide) _ m.length (byV m) rfl (HJ.out.1.1.alloc _) ⟨wr.heap.size, 0, none⟩ 1 1 [.int .u8 (IntKind.u64.wrap n / 2 ^ (8 * k) % 256)] rfl rfl
             (World.news_of_block (cs := #[.int .u8 (IntKind.u64.wrap n / 2 ^ (8 * k) % 256)]) (t := 5) (fr := (0, 0)) (heap_alloc_new _ _)) (fun u hu => by simp at hu; subst hu; rfl) (by decide) (by simp only [maxLen]; omega) (by omega) (by simp; omega) (wr.heap.size + 1) (by simp) ?_
           intro gg cap w8 hown8 hgrow hat hlt8
           have H8 := hide (And.intro hown8 (And.intro hgrow hat))
           clear hown8 hgrow hat hlt8))
      have e : l ++ le n (k + 1) = m ++ [IntKind.u64.wrap n / 2 ^ (8 * k) % 256] := by rw [le_succ, ← List.append_assoc, ← HJ.out.2, HY.out.1, HY.out.2]
      refine ⟨⟨k + 1, by omega, by go_num, ?_⟩, by simp only [intOf]; omega⟩
      rw [e]
      refine ⟨?_, (HJ.out.1.2.alloc _).grown H8.out.2.1 (fun k hk => .inr (HJ.out.1.1.lt k hk).1)⟩
      have h8 := H8.out.1
      rw [byV_app, List.length_append, List.length_singleton]
      rw [hml] at h8 ⊢
      exact h8
    · have hkk : k = size := by omega
      subst hkk
      go_wp2
      go_ret
      have h9 := HJ.out.1
      refine ⟨_, rfl, ?_, h9.2⟩
      rw [← HJ.out.2]
      exact h9

set_option maxRecDepth 100000 in
set_option maxHeartbeats 1600000 in
theorem put57 (w0 w : World) (v : Value) (l : List Int) (n : Int) (size : Nat) (h0 : 0 ≤ n) (h1 : n ≤ 4294967295) (h : OwnB w0 w v l) (hs : size ≤ 8) (hl : l.length ≤ 1000000) :
    Calls Try.prog 57 #[v, .int .u32 n, .int .i64 size] w fun e w' => ∃ v' : Value, e = .returned v' ∧ OwnB w0 w' v' (l ++ le n size) ∧ Only [] w0 w' := by
  obtain ⟨i0, hi0, hz0, hz1, hz2⟩ := info_parts info5
  obtain ⟨ao, cv, rfl⟩ := ownsRow_val h.1
  have HW := hide h
  clear h
  go_enter Try.func57, Try.ntmps57
  go_wp2
  go_loopw [9, 0] (fun i v wr => ∃ k : Nat, k ≤ size ∧ i = .int .i64 k ∧ OwnB w0 wr v (l ++ le n k)) (fun i _ _ => size - (intOf i).toNat)
  case atStart => exact ⟨0, Nat.zero_le _, rfl, by simpa [le] using HW.out⟩
  case round =>
    obtain ⟨k, hk, rfl, hown⟩ := hrel
    obtain ⟨m, hm⟩ : ∃ m, m = l ++ le n k := ⟨_, rfl⟩
    rw [← hm] at hown
    have hml : m.length = l.length + k := by rw [hm, List.length_append, le_len]
    obtain ⟨ao', cv', rfl⟩ := ownsRow_val hown.1
    have hsz := hown.2.size
    have HJ := hide (And.intro hown hm)
    clear hown hm
    by_cases hlt : k < size
    · obtain ⟨y, hy⟩ : ∃ y, y = n / 2 ^ (8 * k) % 256 := ⟨_, rfl⟩
      have hyp : putB n k = y := by rw [hy]; unfold putB; rw [IntWalk.u64_in n (by omega)]
      have HY := hide (And.intro hyp hy)
      clear hyp hy
      go_wp2_with (first
        | (at_builtin; refine wpList_append_lies _ rfl _ _ 32 rfl w0.heap.size 5 i0 (.int .u8 0) 1 1 Try.underlying32 hi0 hz0 hz1 hz2 rfl (by decide) _ m.length (byV m) rfl (HJ.out.1.1.alloc _) ⟨wr.heap.size, 0, none⟩ 1 1 [.int .u8 (n / 2 ^ (8 * k) % 256)] rfl rfl
             (World.news_of_block (cs := #[.int .u8 (n / 2 ^ (8 * k) % 256)]) (t := 5) (fr := (0, 0)) (heap_alloc_new _ _)) (fun u hu => by simp at hu; subst hu; rfl) (by decide) (by simp only [maxLen]; omega) (by omega) (by simp; omega) (wr.heap.size + 1) (by simp) ?_
           intro gg cap w8 hown8 hgrow hat hlt8
           have H8 := hide (And.intro hown8 (And.intro hgrow hat))
           clear hown8 hgrow hat hlt8))
      have e : l ++ le n (k + 1) = m ++ [n / 2 ^ (8 * k) % 256] := by rw [le_succ, ← List.append_assoc, ← HJ.out.2, HY.out.1, HY.out.2]
      refine ⟨⟨k + 1, by omega, by go_num, ?_⟩, by simp only [intOf]; omega⟩
      rw [e]
      refine ⟨?_, (HJ.out.1.2.alloc _).grown H8.out.2.1 (fun k hk => .inr (HJ.out.1.1.lt k hk).1)⟩
      have h8 := H8.out.1
      rw [byV_app, List.length_append, List.length_singleton]
      rw [hml] at h8 ⊢
      exact h8
    · have hkk : k = size := by omega
      subst hkk
      go_wp2
      go_ret
      have h9 := HJ.out.1
      refine ⟨_, rfl, ?_, h9.2⟩
      rw [← HJ.out.2]
      exact h9
end Go.Proofs.Ytkempjcdapfopaa
