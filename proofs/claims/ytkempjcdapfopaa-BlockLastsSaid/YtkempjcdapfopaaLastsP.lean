/- What BlockLasts says, in plain Lean, and its arrays. Conditions: none beyond those of each lemma. -/
import Derived.Test.YtkempjcdapfopaaGoesW
namespace Go.Proofs.Ytkempjcdapfopaa
open Go.RowKit

theorem settleL_far {k : Nat} : ∀ (W : Ws) (L : Ls) (f : Nat → Int) (i : Nat), (∀ x ∈ W, x.1 ≠ k) → (settleL L W f i)[k]? = L[k]?
  | [], _, _, _, _ => rfl
  | x :: W, L, f, i, h => by
    rw [settleL, settleL_far W _ f (i + 1) (fun y hy => h y (by simp [hy]))]
    have hx : x.1 ≠ k := h x (by simp)
    unfold settle1
    split
    · simp [List.getElem?_set, hx]
    · split
      · simp [List.getElem?_set, hx]
      · rfl
theorem settleL_congr : ∀ (W : Ws) (L : Ls) (f g : Nat → Int) (i : Nat), (∀ j, i ≤ j → j < i + W.length → f j = g j) → settleL L W f i = settleL L W g i
  | [], _, _, _, _, _ => rfl
  | x :: W, L, f, g, i, h => by
    rw [settleL, settleL, h i (Nat.le_refl _) (by simp)]
    exact settleL_congr W _ f g (i + 1) (fun j h1 h2 => h j (by omega) (by simp; omega))
theorem ones_fate (L : Ls) (W : Ws) : settleL L W (fateOf (List.replicate W.length 1)) 0 = settleL L W (fun _ => 1) 0 := by
  refine settleL_congr W L _ _ 0 (fun j _ hj => ?_)
  have hj' : j < (List.replicate W.length (1 : Int)).length := by simp; omega
  unfold fateOf
  rw [if_pos hj', List.getD_eq_getElem?_getD, List.getElem?_replicate]
  rw [if_pos (by omega)]
  rfl

/-- what is not written again lasts -/
def Still30 (L1 L : Ls) (W : Ws) (ag : List Bool) : Prop :=
  L.length = 30 ∧ ag.length = 30 ∧ (∀ x ∈ W, ag.getD x.1 false = true) ∧ ∀ k : Nat, ag.getD k false = false → L[k]? = L1[k]?
theorem still_new {L : Ls} (h : L.length = 30) : Still30 L L [] (List.replicate 30 false) := ⟨h, by simp, by simp, fun _ _ => rfl⟩
theorem still_dry {L1 L : Ls} {W : Ws} {ag : List Bool} {f : Nat → Int} (h : Still30 L1 L W ag) : Still30 L1 (settleL L W f 0) [] ag := by
  refine ⟨by rw [settleL_len]; exact h.1, h.2.1, by simp, fun k hk => ?_⟩
  rw [settleL_far W L f 0 (fun x hx he => by have := h.2.2.1 x hx; rw [he, hk] at this; cases this)]
  exact h.2.2.2 k hk
theorem still_write {L1 L : Ls} {W : Ws} {ag : List Bool} {n : Nat} {b : Bk} (h : Still30 L1 L W ag) (hn : n < 30) : Still30 L1 L (W ++ [(n, b)]) (ag.set n true) := by
  have hl : n < ag.length := by rw [h.2.1]; exact hn
  refine ⟨h.1, by rw [List.length_set]; exact h.2.1, fun x hx => ?_, fun k hk => ?_⟩
  · rw [getD_set hl]
    simp only [List.mem_append, List.mem_singleton] at hx
    rcases hx with hx | hx
    · split
      · rfl
      · exact h.2.2.1 x hx
    · rw [hx]; simp
  · rw [getD_set hl] at hk
    by_cases hkn : k = n
    · rw [if_pos hkn] at hk; cases hk
    · rw [if_neg hkn] at hk; exact h.2.2.2 k hk
theorem still_rd {L1 L : Ls} {W : Ws} {ag : List Bool} (h : Still30 L1 L W ag) (h1 : L1.length = 30) {k : Nat} (hk : k < 30) (ha : ag.getD k false = false) : rdB L [] k = rdB L1 [] k ∧ rdE L [] k = rdE L1 [] k := by
  have e := getD_of (d := z0) (h.2.2.2 k ha)
  have a := rd_in (L := L) (W := []) (k := k) (by rw [h.1]; exact hk)
  have b := rd_in (L := L1) (W := []) (k := k) (by rw [h1]; exact hk)
  rw [a.1, a.2, b.1, b.2, lastOf_nil, e]
  exact ⟨rfl, rfl⟩
/-- a step keeps it -/
theorem still_go {L1 L : Ls} {W : Ws} {ag : List Bool} {x : OpX} (h : Still30 L1 L W ag) :
    (stE L W x = 0 → x.kind = 1 → (∃ n : Nat, x.at_ = n ∧ n < 30) ∧ Still30 L1 (stL L W x) (stW L W x) (ag.set x.at_.toNat true)) ∧ (¬ (stE L W x = 0 ∧ x.kind = 1) → Still30 L1 (stL L W x) (stW L W x) ag) := by
  constructor
  · intro he h1
    have eL : stL L W x = L := by unfold stL; rw [if_neg (by omega), if_neg (by omega)]
    have eW : stW L W x = wrW L W x.at_ (ofB x.b x.hb) := by unfold stW; rw [if_pos h1]
    have eE : wrE L W x.at_ = 0 := by unfold stE at he; rw [if_pos h1] at he; exact he
    obtain ⟨h0, hlt, _⟩ := wrE_zero eE
    obtain ⟨n, hn⟩ := Int.eq_ofNat_of_zero_le h0
    have hn30 : n < 30 := by have := h.1; omega
    have eW2 : wrW L W x.at_ (ofB x.b x.hb) = W ++ [(n, ofB x.b x.hb)] := by unfold wrW; rw [if_pos eE, hn]; rfl
    rw [eL, eW, eW2, hn]
    exact ⟨⟨n, rfl, hn30⟩, still_write h hn30⟩
  · intro hne
    by_cases h1 : x.kind = 1
    · have eL : stL L W x = L := by unfold stL; rw [if_neg (by omega), if_neg (by omega)]
      have eE : wrE L W x.at_ ≠ 0 := fun he => hne ⟨by unfold stE; rw [if_pos h1]; exact he, h1⟩
      have eW : stW L W x = W := by unfold stW; rw [if_pos h1]; unfold wrW; rw [if_neg eE]
      rw [eL, eW]; exact h
    · by_cases h2 : x.kind = 2
      · have eL : stL L W x = settleL L W (fun _ => 1) 0 := by unfold stL; rw [if_pos h2]
        have eW : stW L W x = [] := by unfold stW; rw [if_neg h1, if_pos h2]
        rw [eL, eW]; exact still_dry h
      · by_cases h3 : x.kind = 3
        · have eL : stL L W x = settleL L W (fateOf x.f) 0 := by unfold stL; rw [if_neg h2, if_pos h3]
          have eW : stW L W x = [] := by unfold stW; rw [if_neg h1, if_neg h2, if_pos h3]
          rw [eL, eW]; exact still_dry h
        · have eL : stL L W x = L := by unfold stL; rw [if_neg h2, if_neg h3]
          have eW : stW L W x = W := by unfold stW; rw [if_neg h1, if_neg h2, if_neg h3]
          rw [eL, eW]; exact h
theorem stL_len (L : Ls) (W : Ws) (x : OpX) : (stL L W x).length = L.length := by
  unfold stL
  split
  · exact settleL_len _ _ _ _
  · split
    · exact settleL_len _ _ _ _
    · rfl

/-- thirty numbers, thirty Booleans -/
def ints (T : List Int) : Array Value := (T.map (Value.int .i64)).toArray
def bools (T : List Bool) : Array Value := (T.map Value.bool).toArray
theorem size_ints (T : List Int) : (ints T).size = T.length := by simp [ints]
theorem size_bools (T : List Bool) : (bools T).size = T.length := by simp [bools]
theorem ints_get {T : List Int} {k : Nat} (hk : k < T.length) : (ints T)[k]? = some (.int .i64 (T.getD k 0)) := by
  simp [ints, List.getD, List.getElem?_eq_getElem hk]
theorem bools_get {T : List Bool} {k : Nat} (hk : k < T.length) : (bools T)[k]? = some (.bool (T.getD k false)) := by
  simp [bools, List.getD, List.getElem?_eq_getElem hk]
theorem ints_set (T : List Int) (k : Nat) (z : Int) : (ints T).setIfInBounds k (.int .i64 z) = ints (T.set k z) := by
  simp [ints, List.map_set]
theorem bools_set (T : List Bool) (k : Nat) (z : Bool) : (bools T).setIfInBounds k (.bool z) = bools (T.set k z) := by
  simp [bools, List.map_set]
def i30 : List Int := List.replicate 30 0
def f30 : List Bool := List.replicate 30 false
theorem i30_len : i30.length = 30 := by simp [i30]
theorem zero54 (w : World) : (zeroValue 54).run Try.prog w = .ok (.agg (ints i30)) w := by kernel_rfl
theorem zero55 (w : World) : (zeroValue 55).run Try.prog w = .ok (.agg (bools f30)) w := by kernel_rfl
theorem at_alloc54 : Instr.alloc 54 true (.tuple #[]) = allocR 54 := rfl
theorem at_alloc55 : Instr.alloc 55 true (.tuple #[]) = allocR 55 := rfl
theorem run_alloc54 (w : World) : (allocR 54).run Try.prog w = .ok (.pointer (some ⟨w.heap.size, 0, none⟩)) (w.alloc (.cells (ints i30) 54)) := run_alloc_of zero54 w
theorem run_alloc55 (w : World) : (allocR 55).run Try.prog w = .ok (.pointer (some ⟨w.heap.size, 0, none⟩)) (w.alloc (.cells (bools f30) 55)) := run_alloc_of zero55 w
attribute [go_sem ↓] at_alloc54 at_alloc55
attribute [go_sem] run_alloc54 run_alloc55
theorem info5' : (Try.prog.info? 5).map (fun i => (i.zero, i.size, i.bytes)) = some (some (.int .u8 0), 1, 1) := info5

theorem still_new30 {L : Ls} (h : L.length = 30) : Still30 L L [] f30 := still_new h
/-- a row of ones that the call has made is bytes -/
theorem ones_bytes {w : World} {base n : Nat} {v : Value} (h : w.ownsRow base 5 1 v n (List.replicate n (.int .u8 1))) : Bytes w w.heap.size v (List.replicate n 1) := by
  rcases h.2 with ⟨rfl, h0⟩ | ⟨g, cap, cur, hv, _, hb, hle, _, hsz, htk⟩
  · subst h0
    exact ⟨none, 0, rfl, by simp, by simp⟩
  · refine ⟨some ⟨g, 0, none⟩, cap, by rw [hv]; simp, fun z hz => by have := List.eq_of_mem_replicate hz; omega, fun hp => ⟨g, 0, rfl, ?_, fun j hj => ?_⟩⟩
    · exact (show Blk w g 5 cur from hb).lt
    · have hj' : j < n := by simpa using hj
      rw [(show Blk w g 5 cur from hb).cell]
      have h1 : (cur.toList.take (n * 1))[j]? = some (Value.int .u8 1) := by rw [htk]; simp [List.getElem?_replicate, hj']
      rw [List.getElem?_take] at h1
      rw [if_pos (by omega)] at h1
      simpa using h1
end Go.Proofs.Ytkempjcdapfopaa
