/- Rows that belong to a call, read as bytes and as lines. Conditions: none beyond those of each lemma. -/
import Derived.Test.YtkempjcdapfopaaSamW
import Derived.Test.YtkempjcdapfopaaLeP
namespace Go.Proofs.Ytkempjcdapfopaa
open Go.RowKit

theorem ownsRow_base {w : World} {B C : Nat} {e : TypeId} {sz : Nat} {v : Value} {n : Nat} {xs : List Value} (h : w.ownsRow C e sz v n xs) (hB : B ≤ C) : w.ownsRow B e sz v n xs := by
  refine ⟨h.1, ?_⟩
  rcases h.2 with hn | ⟨g, cap, cur, hv, hb, hg, rest⟩
  · exact .inl hn
  · exact .inr ⟨g, cap, cur, hv, Nat.le_trans hB hb, hg, rest⟩
theorem OwnB.base {a w0 w : World} {v : Value} {l : List Int} (h : OwnB w0 w v l) (ho : Only [] a w0) : OwnB a w v l :=
  ⟨ownsRow_base h.1 ho.size, ho.trans h.2 (by simp) (by simp)⟩
theorem OwnL.base {e : TypeId} {a w0 w : World} {v : Value} {l : List (Int × Int)} (h : OwnL e w0 w v l) (ho : Only [] a w0) : OwnL e a w v l :=
  ⟨ownsRow_base h.1 ho.size, ho.trans h.2 (by simp) (by simp)⟩
theorem OwnL.only {e : TypeId} {w0 w w' : World} {v : Value} {l : List (Int × Int)} (h : OwnL e w0 w v l) (ho : Only [] w w') : OwnL e w0 w' v l := ⟨ownsRow_only h.1 ho (by simp), h.2.new ho (by simp)⟩
theorem OwnB.bytes {w0 w : World} {v : Value} {l : List Int} (h : OwnB w0 w v l) (hz : ∀ z ∈ l, 0 ≤ z ∧ z < 256) : Bytes w w.heap.size v l := by
  obtain ⟨ao, c, rfl⟩ := ownsRow_val h.1
  refine ⟨ao, c, rfl, hz, fun hp => ?_⟩
  rcases h.1.2 with ⟨hv, hn⟩ | ⟨g, cap, cur, hv, hb, hg, h1, h2, h3, h4⟩
  · omega
  · injection hv with ha _ _
    subst ha
    refine ⟨g, 0, rfl, ?_, fun j hj => ?_⟩
    · exact (h.1.lt g rfl).2
    · have := h.1.cells (g := g) rfl j (.int .u8 l[j]) (by simp [byV, List.getElem?_eq_getElem hj])
      simpa only [Addr.add_mid] using this
theorem lnV_get (l : List (Int × Int)) (j : Nat) (hj : j < l.length) : (lnV l)[j * 2]? = some (.int .i64 l[j].1) ∧ (lnV l)[j * 2 + 1]? = some (.int .i64 l[j].2) := by
  induction l generalizing j with
  | nil => simp at hj
  | cons x l ih =>
    cases j with
    | zero => simp [lnV]
    | succ j =>
      have h := ih j (by simpa using hj)
      have e1 : (j + 1) * 2 = j * 2 + 1 + 1 := by omega
      have e2 : (j + 1) * 2 + 1 = j * 2 + 1 + 1 + 1 := by omega
      rw [e1]
      simpa [lnV] using h
theorem OwnL.lines {e : TypeId} {w0 w : World} {v : Value} {l : List (Int × Int)} (h : OwnL e w0 w v l) (hz : ∀ x ∈ l, (-9223372036854775808 ≤ x.1 ∧ x.1 ≤ 9223372036854775807) ∧ -9223372036854775808 ≤ x.2 ∧ x.2 ≤ 9223372036854775807) : LinesAt w w.heap.size v l := by
  obtain ⟨ao, c, rfl⟩ := ownsRow_val h.1
  refine ⟨ao, c, rfl, hz, fun hp => ?_⟩
  rcases h.1.2 with ⟨hv, hn⟩ | ⟨g, cap, cur, hv, hb, hg, h1, h2, h3, h4⟩
  · omega
  · injection hv with ha _ _
    subst ha
    refine ⟨g, 0, rfl, (h.1.lt g rfl).2, fun j hj => ?_⟩
    have hh := lnV_get l j hj
    have k0 := h.1.cells (g := g) rfl _ _ hh.1
    have k1 := h.1.cells (g := g) rfl _ _ hh.2
    simp only [Addr.add_mid] at k0 k1
    exact ⟨k0, by rw [Nat.add_assoc]; exact k1⟩
/-- a row of bytes that was just made -/
theorem OwnB.made {w0 w : World} (ho : Only [] w0 w) (l : List Int) (c : Nat) (hc : c = l.length) (hm : c ≤ maxLen) (cs : Array Value) (hcs : cs.toList = byV l) : OwnB w0 (w.alloc (.cells cs 5)) (.slice (some ⟨w.heap.size, 0, none⟩) c c) l := by
  subst hc
  refine ⟨⟨by simp [byV], .inr ⟨w.heap.size, l.length, cs, rfl, ho.size, heap_alloc_new w _, Nat.le_refl _, hm, ?_, ?_⟩⟩, ho.alloc _⟩
  · rw [← Array.length_toList, hcs]; simp [byV]
  · rw [hcs, List.take_of_length_le (by simp [byV])]
theorem OwnB.drew {w0 w : World} {v : Value} {l : List Int} (h : OwnB w0 w v l) : OwnB w0 w.drew v l := h.only (Only.refl [] w).drew
theorem put55_4 (w0 w : World) (v : Value) (l : List Int) (n : Int) (h0 : -9223372036854775808 ≤ n) (h1 : n ≤ 9223372036854775807) (h : OwnB w0 w v l) (hl : l.length ≤ 1000000) :
    Calls Try.prog 55 #[v, .int .i64 n, .int .i64 4] w fun e w' => ∃ v' : Value, e = .returned v' ∧ OwnB w0 w' v' (l ++ le n 4) ∧ Only [] w0 w' := put55 w0 w v l n 4 h0 h1 h (by decide) hl
theorem put56_8 (w0 w : World) (v : Value) (l : List Int) (n : Int) (h0 : -9223372036854775808 ≤ n) (h1 : n ≤ 9223372036854775807) (h : OwnB w0 w v l) (hl : l.length ≤ 1000000) :
    Calls Try.prog 56 #[v, .int .i64 n, .int .i64 8] w fun e w' => ∃ v' : Value, e = .returned v' ∧ OwnB w0 w' v' (l ++ le n 8) ∧ Only [] w0 w' := put56 w0 w v l n 8 h0 h1 h (by decide) hl
theorem put57_4 (w0 w : World) (v : Value) (l : List Int) (n : Int) (h0 : 0 ≤ n) (h1 : n ≤ 4294967295) (h : OwnB w0 w v l) (hl : l.length ≤ 1000000) :
    Calls Try.prog 57 #[v, .int .u32 n, .int .i64 4] w fun e w' => ∃ v' : Value, e = .returned v' ∧ OwnB w0 w' v' (l ++ le n 4) ∧ Only [] w0 w' := put57 w0 w v l n 4 h0 h1 h (by decide) hl
end Go.Proofs.Ytkempjcdapfopaa
