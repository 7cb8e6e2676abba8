/- The program's store: Size, Waiting, check, Read, by contract. Conditions: the store lies in memory as 'StoreAt' says. -/
import Derived.Test.YtkempjcdapfopaaSt
import Derived.BigQuiet
import Derived.Deep.QuietTactic
namespace Go.Proofs.Ytkempjcdapfopaa
open Go.RowKit

/-- what a store answers to Read -/
def rdB (L : Ls) (W : Ws) (at_ : Int) : Bk :=
  if 0 ≤ at_ ∧ at_ < L.length then
    match lastOf W at_ with
    | some b => b
    | none => if (L.getD at_.toNat (Bk.zero, false)).2 then Bk.zero else (L.getD at_.toNat (Bk.zero, false)).1
  else Bk.zero
def rdE (L : Ls) (W : Ws) (at_ : Int) : Int :=
  if 0 ≤ at_ ∧ at_ < L.length then
    match lastOf W at_ with
    | some _ => 0
    | none => if (L.getD at_.toNat (Bk.zero, false)).2 then 7 else 0
  else 2

theorem size_any (w : World) (p : Nat) (F : List Nat) (L : Ls) (W : Ws) (h : StoreAt w p F L W) :
    Calls Try.prog 24 #[.pointer (some ⟨p, 0, none⟩)] w fun e w' => e = .returned (.int .i64 L.length) ∧ w = w' := by
  obtain ⟨lb, mb, wv, rfl, hp, _⟩ := h
  have hc0 := hp.cell 0
  simp at hc0
  clear hp
  go_enter Try.func24, Try.ntmps24
  go_wp2
  go_ret
  exact ⟨rfl, rfl⟩
theorem size_nil (w : World) : Calls Try.prog 24 #[.pointer none] w fun e w' => e = .returned (.int .i64 0) ∧ w = w' := by
  go_enter Try.func24, Try.ntmps24
  go_wp2
  go_ret
  exact ⟨rfl, rfl⟩
theorem ownsRow_val {w : World} {base e size n : Nat} {v : Value} {xs : List Value} (h : w.ownsRow base e size v n xs) : ∃ ad cap, v = .slice ad n cap := by
  rcases h.2 with ⟨rfl, rfl⟩ | ⟨g', cap, cur, rfl, _⟩
  · exact ⟨_, _, rfl⟩
  · exact ⟨_, _, rfl⟩
theorem waiting_any (w : World) (p : Nat) (F : List Nat) (L : Ls) (W : Ws) (h : StoreAt w p F L W) :
    Calls Try.prog 23 #[.pointer (some ⟨p, 0, none⟩)] w fun e w' => e = .returned (.int .i64 W.length) ∧ w = w' := by
  obtain ⟨lb, mb, wv, rfl, hp, _, _, hw, _⟩ := h
  obtain ⟨ad, cap, rfl⟩ := ownsRow_val hw
  have hc0 := hp.cell 1
  simp at hc0
  clear hp
  go_enter Try.func23, Try.ntmps23
  go_wp2
  go_ret
  exact ⟨rfl, rfl⟩

theorem check_yes (w : World) (p : Nat) (F : List Nat) (L : Ls) (W : Ws) (at_ : Int) (h : StoreAt w p F L W) (h0 : 0 ≤ at_) (h1 : at_ < L.length) :
    Calls Try.prog 49 #[.pointer (some ⟨p, 0, none⟩), .int .i64 at_] w fun e w' => e = .returned (.int .i64 0) ∧ w = w' := by
  obtain ⟨lb, mb, wv, rfl, hp, _⟩ := h
  have hc0 := hp.cell 0
  simp at hc0
  clear hp
  go_enter Try.func49, Try.ntmps49
  go_wp2
  go_ret
  exact ⟨rfl, rfl⟩
theorem check_no (w : World) (p : Nat) (F : List Nat) (L : Ls) (W : Ws) (at_ : Int) (h : StoreAt w p F L W) (h0 : ¬ (0 ≤ at_ ∧ at_ < L.length)) :
    Calls Try.prog 49 #[.pointer (some ⟨p, 0, none⟩), .int .i64 at_] w fun e w' => e = .returned (.int .i64 2) ∧ w = w' := by
  obtain ⟨lb, mb, wv, rfl, hp, _⟩ := h
  have hc0 := hp.cell 0
  simp at hc0
  clear hp
  by_cases hlt : at_ < 0
  · go_enter Try.func49, Try.ntmps49
    go_wp2
    go_ret
    exact ⟨rfl, rfl⟩
  · have hge : (L.length : Int) ≤ at_ := by omega
    have hz : 0 ≤ at_ := by omega
    clear h0
    go_enter Try.func49, Try.ntmps49
    go_wp2
    go_ret
    exact ⟨rfl, rfl⟩

set_option maxRecDepth 100000 in
theorem read_no (w : World) (p : Nat) (F : List Nat) (L : Ls) (W : Ws) (at_ : Int) (h : StoreAt w p F L W) (h0 : ¬ (0 ≤ at_ ∧ at_ < L.length)) :
    Calls Try.prog 25 #[.pointer (some ⟨p, 0, none⟩), .int .i64 at_] w fun e w' => e = .returned (.tuple #[.agg Bk.zero.cells, .int .i64 2]) ∧ Only [] w w' := by
  have hS := hide h
  have H0 := hide h0
  clear h h0
  go_enter Try.func25, Try.ntmps25
  go_wp2_with fail
  refine (check_no _ _ _ _ _ _ (hS.out.only ((Only.refl [] w).alloc _) (by simp)) H0.out).mono ?_
  rintro e w' ⟨rfl, rfl⟩
  go_wp2
  exact bodyPost_ret (results_cell_tmp (n := 64) rfl _ Try.underlying45 rfl sz45 _ _ w.heap.size Bk.zero.cells rfl (by go_simp)) rfl ⟨rfl, (Only.refl [] w).alloc _⟩

set_option maxRecDepth 100000 in
theorem read_fresh (w : World) (p : Nat) (F : List Nat) (L : Ls) (W : Ws) (at_ : Int) (b : Bk) (h : StoreAt w p F L W) (h0 : 0 ≤ at_) (h1 : at_ < L.length) (hl : lastOf W at_ = some b) :
    Calls Try.prog 25 #[.pointer (some ⟨p, 0, none⟩), .int .i64 at_] w fun e w' => e = .returned (.tuple #[.agg b.cells, .int .i64 0]) ∧ Only [] w w' := by
  have hS := hide h
  obtain ⟨lb, mb, wv, hF, hp, hl', hm, hw, hr⟩ := h
  have lp := hp.lt
  have hc2 : (w.alloc (.cells Bk.zero.cells 45)).cell? ⟨p, 2, none⟩ = some (.map (some mb)) := by rw [(hp.alloc _).cell]; rfl
  have hk := run_lookup97 (hm.same (Below.heap_alloc w (.cells Bk.zero.cells 45) mb hm.lt)) at_
  rw [hl] at hk
  simp only [lookV] at hk
  clear hp hl' hm hw hr hF hl
  go_enter Try.func25, Try.ntmps25
  go_wp2_with fail
  refine (check_yes _ _ _ _ _ _ (hS.out.only ((Only.refl [] w).alloc _) (by simp)) h0 h1).mono ?_
  rintro e w' ⟨rfl, rfl⟩
  go_wp2
  exact bodyPost_ret (results_cell_tmp (n := 64) rfl _ Try.underlying45 rfl sz45 _ _ w.heap.size b.cells rfl (by go_simp)) rfl ⟨rfl, ((Only.refl [] w).alloc _).alloc _⟩

set_option maxRecDepth 100000 in
theorem read_last (w : World) (p : Nat) (F : List Nat) (L : Ls) (W : Ws) (k : Nat) (b : Bk) (h : StoreAt w p F L W) (h1 : k < L.length) (hl : lastOf W (k : Int) = none) (hL : L[k]? = some (b, false)) :
    Calls Try.prog 25 #[.pointer (some ⟨p, 0, none⟩), .int .i64 k] w fun e w' => e = .returned (.tuple #[.agg b.cells, .int .i64 0]) ∧ Only [] w w' := by
  have hS := hide h
  obtain ⟨lb, mb, wv, hF, hp, hl', hm, hw, hr⟩ := h
  have lp := hp.lt
  have ll := hl'.lt
  have hc2 : (w.alloc (.cells Bk.zero.cells 45)).cell? ⟨p, 2, none⟩ = some (.map (some mb)) := by rw [(hp.alloc _).cell]; rfl
  have hc0 : w.cell? ⟨p, 0, none⟩ = some (.slice (some ⟨lb, 0, none⟩) L.length L.length) := by rw [hp.cell]; rfl
  have hk := run_lookup97 (hm.same (Below.heap_alloc w (.cells Bk.zero.cells 45) mb hm.lt)) (k : Int)
  rw [hl] at hk
  simp only [lookV] at hk
  have ht : w.cell? ⟨lb, k * 65 + 64, none⟩ = some (.bool false) := by rw [hl'.cell, flat_get size_hc hL 64 (by omega)]; exact hcells_t _ _
  have hb : row w lb (k * 65) 64 = some b.cells := by
    rw [hl'.row _ _ (by rw [size_flat size_hc]; omega)]
    have := flat_ext size_hc hL 0 64 (by omega)
    simp only [Nat.add_zero, Nat.zero_add] at this
    rw [this]; exact congrArg some (hcells_b _ _)
  clear hp hl' hm hw hr hF hl hL
  go_enter Try.func25, Try.ntmps25
  go_wp2_with fail
  refine (check_yes _ _ _ _ _ _ (hS.out.only ((Only.refl [] w).alloc _) (by simp)) (by omega) (by omega)).mono ?_
  rintro e w' ⟨rfl, rfl⟩
  go_wp2
  exact bodyPost_ret (results_cell_tmp (n := 64) rfl _ Try.underlying45 rfl sz45 _ _ w.heap.size b.cells rfl (by go_simp)) rfl ⟨rfl, ((Only.refl [] w).alloc _).alloc _⟩

set_option maxRecDepth 100000 in
theorem read_torn (w : World) (p : Nat) (F : List Nat) (L : Ls) (W : Ws) (k : Nat) (b : Bk) (h : StoreAt w p F L W) (h1 : k < L.length) (hl : lastOf W (k : Int) = none) (hL : L[k]? = some (b, true)) :
    Calls Try.prog 25 #[.pointer (some ⟨p, 0, none⟩), .int .i64 k] w fun e w' => e = .returned (.tuple #[.agg Bk.zero.cells, .int .i64 7]) ∧ Only [] w w' := by
  have hS := hide h
  obtain ⟨lb, mb, wv, hF, hp, hl', hm, hw, hr⟩ := h
  have lp := hp.lt
  have ll := hl'.lt
  have hc2 : (w.alloc (.cells Bk.zero.cells 45)).cell? ⟨p, 2, none⟩ = some (.map (some mb)) := by rw [(hp.alloc _).cell]; rfl
  have hc0 : w.cell? ⟨p, 0, none⟩ = some (.slice (some ⟨lb, 0, none⟩) L.length L.length) := by rw [hp.cell]; rfl
  have hk := run_lookup97 (hm.same (Below.heap_alloc w (.cells Bk.zero.cells 45) mb hm.lt)) (k : Int)
  rw [hl] at hk
  simp only [lookV] at hk
  have ht : w.cell? ⟨lb, k * 65 + 64, none⟩ = some (.bool true) := by rw [hl'.cell, flat_get size_hc hL 64 (by omega)]; exact hcells_t _ _
  clear hp hl' hm hw hr hF hl hL
  go_enter Try.func25, Try.ntmps25
  go_wp2_with fail
  refine (check_yes _ _ _ _ _ _ (hS.out.only ((Only.refl [] w).alloc _) (by simp)) (by omega) (by omega)).mono ?_
  rintro e w' ⟨rfl, rfl⟩
  go_wp2
  exact bodyPost_ret (results_cell_tmp (n := 64) rfl _ Try.underlying45 rfl sz45 _ _ w.heap.size Bk.zero.cells rfl (by go_simp)) rfl ⟨rfl, ((Only.refl [] w).alloc _).alloc _⟩

/-- Read, whatever it is given -/
theorem read_any (w : World) (p : Nat) (F : List Nat) (L : Ls) (W : Ws) (at_ : Int) (h : StoreAt w p F L W) :
    Calls Try.prog 25 #[.pointer (some ⟨p, 0, none⟩), .int .i64 at_] w fun e w' => e = .returned (.tuple #[.agg (rdB L W at_).cells, .int .i64 (rdE L W at_)]) ∧ Only [] w w' := by
  by_cases hr : 0 ≤ at_ ∧ at_ < L.length
  · obtain ⟨h0, h1⟩ := hr
    obtain ⟨k, rfl⟩ := Int.eq_ofNat_of_zero_le h0
    have hk : k < L.length := by omega
    cases hl : lastOf W (k : Int) with
    | some b =>
      have e1 : rdB L W k = b := by unfold rdB; rw [if_pos ⟨h0, h1⟩, hl]
      have e2 : rdE L W k = 0 := by unfold rdE; rw [if_pos ⟨h0, h1⟩, hl]
      rw [e1, e2]
      exact read_fresh w p F L W k b h h0 h1 hl
    | none =>
      have hL : L[k]? = some L[k] := List.getElem?_eq_getElem hk
      rcases hx : L[k] with ⟨b, t⟩
      cases t with
      | false =>
        have e1 : rdB L W k = b := by unfold rdB; rw [if_pos ⟨h0, h1⟩, hl]; simp [hL, hx]
        have e2 : rdE L W k = 0 := by unfold rdE; rw [if_pos ⟨h0, h1⟩, hl]; simp [hL, hx]
        rw [e1, e2]
        exact read_last w p F L W k b h hk hl (by rw [hL, hx])
      | true =>
        have e1 : rdB L W k = Bk.zero := by unfold rdB; rw [if_pos ⟨h0, h1⟩, hl]; simp [hL, hx]
        have e2 : rdE L W k = 7 := by unfold rdE; rw [if_pos ⟨h0, h1⟩, hl]; simp [hL, hx]
        rw [e1, e2]
        exact read_torn w p F L W k b h hk hl (by rw [hL, hx])
  · have e1 : rdB L W at_ = Bk.zero := by unfold rdB; rw [if_neg hr]
    have e2 : rdE L W at_ = 2 := by unfold rdE; rw [if_neg hr]
    rw [e1, e2]
    exact read_no w p F L W at_ h hr
end Go.Proofs.Ytkempjcdapfopaa
