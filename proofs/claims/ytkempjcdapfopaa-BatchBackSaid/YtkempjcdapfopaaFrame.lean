/- A statement's arguments opened: bytes, and steps of a store, as they lie in memory. Conditions: none beyond those of each lemma. -/
import Derived.Test.YtkempjcdapfopaaReadsW
import Derived.Test.YtkempjcdapfopaaRows
import Derived.ProofKit
import Derived.OpenShut
import Derived.Deep.Slices
import Derived.Deep.Fields
namespace Go.Proofs.Ytkempjcdapfopaa
open Go.ChangeShapes Go.WideShapes Go.ChangeAt Go.RowKit Go.Deep

instance : Inhabited OpX := ⟨⟨0, 0, [], [], by simp⟩⟩
theorem Try.own : ownKnob Try.prog.godebug = none := by kernel_rfl
theorem Try.laidOut : laidOutB Try.prog = true := by kernel_rfl
theorem cells5 : Try.prog.cellsOf 5 = 1 := by kernel_rfl
theorem cells34 : Try.prog.cellsOf 34 = 4 := by kernel_rfl
theorem cells3 : Try.prog.cellsOf 3 = 1 := by kernel_rfl
theorem cells32 : Try.prog.cellsOf 32 = 1 := by kernel_rfl

section
variable {H : Type} {enc : TypeId × Value → H} {w : World} {base : Nat} {held : Bool}

theorem bytes_open {n : Nat} {cs : List Value} {x : DataW H × List MemPlace} (h : DataW.trod enc Try.prog w base (fun _ => true) held n 32 cs = some x) :
    ∃ v zs, cs = [v] ∧ Bytes w w.heap.size v zs ∧ zs.length ≤ maxLen := by
  rcases open_ints Try.underlying32 Try.underlying5 cells5 h with ⟨rfl, _⟩ | ⟨a, len, cap, zs, rfl, _, hl, hm, hz, _, hcell, hwz⟩
  · exact ⟨_, [], rfl, ⟨none, 0, rfl, by simp, by simp⟩, by simp⟩
  · simp only [if_true] at hz
    have hlen : (zs.take len).length = len := by rw [List.length_take]; omega
    refine ⟨_, zs.take len, rfl, ⟨some a, cap, by rw [hlen], fun z hz' => ?_, fun hp => ?_⟩, by omega⟩
    · have := bounds_u8 (hwz z (List.mem_of_mem_take hz'))
      omega
    · obtain ⟨b, o, rfl, hc⟩ := ints_at hcell (by omega)
      refine ⟨b, o, rfl, World.block_lt_of_cell? w _ (hc 0 (by omega)), fun j hj => ?_⟩
      rw [hlen] at hj
      rw [hc j (by omega)]
      simp [List.getElem?_eq_getElem (show j < zs.length by omega)]

/-- one step, out of its four cells -/
theorem op_open {n : Nat} {a : Addr} {y : DataW H × List MemPlace} {cs : List Value} (hc : w.cells? base a 4 = some cs) (h : DataW.trod enc Try.prog w base (fun _ => true) held n 34 cs = some y) :
    ∃ (x : OpX) (bv fv : Value), w.cell? (a.add 0) = some (.int .i64 x.kind) ∧ w.cell? (a.add 1) = some (.int .i64 x.at_) ∧ w.cell? (a.add 2) = some bv ∧ w.cell? (a.add 3) = some fv ∧ OpVal w w.heap.size x bv fv := by
  obtain ⟨_, hlen, hat⟩ := World.cells?_some hc
  obtain ⟨ys, m, _, _, _, hyl, hf⟩ := DataW.trod_struct Try.underlying34 h
  have hyl4 : ys.length = 4 := hyl
  have f0 : DataW.trod enc Try.prog w base (fun _ => true) held m 3 ((cs.drop 0).take (Try.prog.cellsOf 3)) = ys[0]? := hf 0 _ rfl
  have f1 : DataW.trod enc Try.prog w base (fun _ => true) held m 3 ((cs.drop 1).take (Try.prog.cellsOf 3)) = ys[1]? := hf 1 _ rfl
  have f2 : DataW.trod enc Try.prog w base (fun _ => true) held m 32 ((cs.drop 2).take (Try.prog.cellsOf 32)) = ys[2]? := hf 2 _ rfl
  have f3 : DataW.trod enc Try.prog w base (fun _ => true) held m 32 ((cs.drop 3).take (Try.prog.cellsOf 32)) = ys[3]? := hf 3 _ rfl
  rw [List.getElem?_eq_getElem (by omega)] at f0 f1 f2 f3
  clear hf
  rw [cells3] at f0 f1
  rw [cells32] at f2 f3
  have g : ∀ i (hi : i < 4), (cs.drop i).take 1 = [cs[i]'(by omega)] ∧ w.cell? (a.add i) = some (cs[i]'(by omega)) := fun i hi => by
    refine ⟨?_, by rw [hat i hi, List.getElem?_eq_getElem (by omega)]⟩
    rw [List.drop_eq_getElem_cons (by omega)]; rfl
  rw [(g 0 (by omega)).1] at f0
  rw [(g 1 (by omega)).1] at f1
  rw [(g 2 (by omega)).1] at f2
  rw [(g 3 (by omega)).1] at f3
  have c0 := (g 0 (by omega)).2
  have c1 := (g 1 (by omega)).2
  have c2 := (g 2 (by omega)).2
  have c3 := (g 3 (by omega)).2
  clear g hat
  generalize cs[0]'(by omega) = v0 at *
  generalize cs[1]'(by omega) = v1 at *
  generalize cs[2]'(by omega) = v2 at *
  generalize cs[3]'(by omega) = v3 at *
  obtain ⟨kd, hk, _, _⟩ := DataW.trod_int Try.underlying3 f0
  obtain ⟨att, ha, _, _⟩ := DataW.trod_int Try.underlying3 f1
  obtain ⟨b2, bz, hb2, hbz, _⟩ := bytes_open f2
  obtain ⟨b3, fz, hb3, hfz, _⟩ := bytes_open f3
  injection hk with hk _
  injection ha with ha _
  injection hb2 with hb2 _
  injection hb3 with hb3 _
  subst hk ha hb2 hb3
  have hz : ∀ z ∈ bz, 0 ≤ z ∧ z < 256 := by obtain ⟨_, _, _, hz, _⟩ := hbz; exact hz
  exact ⟨⟨kd, att, bz, fz, hz⟩, _, _, c0, c1, c2, c3, hbz, hfz⟩

set_option maxRecDepth 100000 in
theorem ops_open {v : Value} {d : DataW H} {ps : List MemPlace} (hv : Value.okWide Try.prog w .any base 22 v) (h : DataW.Trod enc Try.prog w 0 (fun _ => true) true 22 v d ps) :
    ∃ l, OpsAt w w.heap.size v l ∧ l.length ≤ 9223372036854775807 := by
  obtain ⟨a0, len, cap, rfl⟩ := okWide_slice Try.underlying22 hv
  obtain ⟨fuel, hf⟩ := h
  rcases open_slice Try.underlying22 hf with ⟨hcs, _⟩ | ⟨a, len', cap', m, n, D, Pl, hcs, _, hl, hm, hmm, _, hel⟩
  · simp [Value.cells] at hcs
    obtain ⟨rfl, rfl, rfl⟩ := hcs
    exact ⟨[], ⟨none, 0, rfl, by simp⟩, by simp⟩
  · simp [Value.cells] at hcs
    obtain ⟨rfl, rfl, rfl⟩ := hcs
    simp only [if_true] at hmm
    subst hmm
    have hex : ∀ i, i < len → ∃ x : OpX, ∃ bv fv, w.cell? (a.add (i * 4 + 0)) = some (.int .i64 x.kind) ∧ w.cell? (a.add (i * 4 + 1)) = some (.int .i64 x.at_) ∧ w.cell? (a.add (i * 4 + 2)) = some bv ∧ w.cell? (a.add (i * 4 + 3)) = some fv ∧ OpVal w w.heap.size x bv fv := fun i hi => by
      obtain ⟨cs', h1, h2⟩ := hel i (by omega)
      rw [cells34] at h1
      obtain ⟨x, bv, fv, k0, k1, k2, k3, hx⟩ := op_open h1 h2
      rw [Go.Deep.add_add] at k0 k1 k2 k3
      exact ⟨x, bv, fv, k0, k1, k2, k3, hx⟩
    obtain ⟨X, hX⟩ := Go.Deep.choose_lt (p := fun i (x : OpX) => ∃ bv fv, w.cell? (a.add (i * 4 + 0)) = some (.int .i64 x.kind) ∧ w.cell? (a.add (i * 4 + 1)) = some (.int .i64 x.at_) ∧ w.cell? (a.add (i * 4 + 2)) = some bv ∧ w.cell? (a.add (i * 4 + 3)) = some fv ∧ OpVal w w.heap.size x bv fv) hex
    have hll : ((List.range len).map X).length = len := by simp
    refine ⟨(List.range len).map X, ⟨some a, _, by rw [hll], fun hp => ?_⟩, by rw [hll]; unfold maxLen at hm; omega⟩
    rw [hll] at hp
    obtain ⟨bv, fv, k0, _⟩ := hX 0 hp
    obtain ⟨b, o, spot⟩ := a
    have hspot : spot = none := by simpa [Addr.add] using World.cell?_spot k0
    subst hspot
    refine ⟨b, o, rfl, World.block_lt_of_cell? w _ k0, fun j hj => ?_⟩
    rw [hll] at hj
    obtain ⟨bv, fv, k0, k1, k2, k3, hx⟩ := hX j hj
    simp only [Addr.add_mid] at k0 k1 k2 k3
    have e : ((List.range len).map X)[j]'(by rw [hll]; exact hj) = X j := by simp
    rw [e]
    exact ⟨bv, fv, k0, by rw [Nat.add_assoc]; exact k1, by rw [Nat.add_assoc]; exact k2, by rw [Nat.add_assoc]; exact k3, hx⟩
end

/-- what a statement's walk comes to gives the row's own end -/
theorem Only.toBelow {w w' : World} (h : Only [] w w') : Below w.heap.size w w' := h.below
end Go.Proofs.Ytkempjcdapfopaa
