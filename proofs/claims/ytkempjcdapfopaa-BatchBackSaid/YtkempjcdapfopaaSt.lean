/- Flat rows of equal parts, and what a store is in memory: blocks that last, writes that wait, and the map of the last writes. Conditions: none beyond those of each lemma. -/
import Derived.Test.YtkempjcdapfopaaMap
namespace Go.Proofs.Ytkempjcdapfopaa
open Go.RowKit

def flat {α : Type} (f : α → Array Value) (L : List α) : Array Value := (L.flatMap (fun x => (f x).toList)).toArray
section
variable {α : Type} {f : α → Array Value} {n : Nat}
theorem flat_len (hf : ∀ x, (f x).size = n) : ∀ L : List α, (L.flatMap (fun x => (f x).toList)).length = L.length * n
  | [] => by simp
  | x :: L => by simp [flat_len hf L, hf x, Nat.succ_mul, Nat.add_comm]
theorem size_flat (hf : ∀ x, (f x).size = n) (L : List α) : (flat f L).size = L.length * n := by
  have := flat_len hf L
  simpa [flat] using this
theorem flat_split (hf : ∀ x, (f x).size = n) : ∀ (L : List α) (i : Nat) (x : α), L[i]? = some x →
    L.flatMap (fun x => (f x).toList) = (L.take i).flatMap (fun x => (f x).toList) ++ ((f x).toList ++ (L.drop (i + 1)).flatMap (fun x => (f x).toList)) ∧ ((L.take i).flatMap (fun x => (f x).toList)).length = i * n
  | [], i, x, h => by simp at h
  | y :: L, 0, x, h => by
    simp at h; subst h; simp
  | y :: L, i + 1, x, h => by
    have h' : L[i]? = some x := by simpa using h
    obtain ⟨h1, h2⟩ := flat_split hf L i x h'
    refine ⟨?_, ?_⟩
    · simp only [List.take_succ_cons, List.drop_succ_cons, List.flatMap_cons]
      rw [h1]; simp
    · simp only [List.take_succ_cons, List.flatMap_cons, List.length_append, h2]
      simp [hf y, Nat.succ_mul, Nat.add_comm]
theorem flat_get (hf : ∀ x, (f x).size = n) {L : List α} {i : Nat} {x : α} (h : L[i]? = some x) (o : Nat) (ho : o < n) : (flat f L)[i * n + o]? = (f x)[o]? := by
  obtain ⟨h1, h2⟩ := flat_split hf L i x h
  have hl : o < (f x).toList.length := by simp [hf x, ho]
  unfold flat
  rw [List.getElem?_toArray, h1, List.getElem?_append_right (by omega), h2, Nat.add_sub_cancel_left, List.getElem?_append_left hl]
  simp
theorem flat_ext (hf : ∀ x, (f x).size = n) {L : List α} {i : Nat} {x : α} (h : L[i]? = some x) (o k : Nat) (hk : o + k ≤ n) : (flat f L).extract (i * n + o) (i * n + o + k) = (f x).extract o (o + k) := by
  apply Array.ext_getElem?
  intro j
  have hil : i < L.length := by
    rcases Nat.lt_or_ge i L.length with hh | hh
    · exact hh
    · rw [List.getElem?_eq_none hh] at h; cases h
  have hsz := size_flat hf L
  have h2 : i * n + n ≤ L.length * n := by
    have := Nat.mul_le_mul_right n (show i + 1 ≤ L.length from hil)
    rw [Nat.add_mul, Nat.one_mul] at this; exact this
  simp only [Array.getElem?_extract]
  have hx := hf x
  by_cases hj : j < k
  · rw [if_pos (by omega), if_pos (by omega), Nat.add_assoc, flat_get hf h (o + j) (by omega)]
  · rw [if_neg (by omega), if_neg (by omega)]
theorem flat_set (hf : ∀ x, (f x).size = n) {L : List α} {i : Nat} (hi : i < L.length) (y : α) : splice (flat f L) (i * n) (f y) = flat f (L.set i y) := by
  have h : L[i]? = some L[i] := List.getElem?_eq_getElem hi
  obtain ⟨h1, h2⟩ := flat_split hf L i _ h
  have hs : (L.set i y)[i]? = some y := by simp [hi]
  obtain ⟨h3, _⟩ := flat_split hf (L.set i y) i y hs
  unfold splice flat
  congr 1
  rw [h3]
  have e1 : (L.set i y).take i = L.take i := by rw [List.take_set_of_le (Nat.le_refl _)]
  have e2 : (L.set i y).drop (i + 1) = L.drop (i + 1) := by rw [List.drop_set_of_lt (by omega)]
  rw [e1, e2]
  simp only []
  rw [h1, List.take_left' h2]
  rw [List.append_assoc]
  congr 1
  congr 1
  rw [List.drop_append, h2, hf y, List.drop_eq_nil_of_le (by omega), List.nil_append, Nat.add_sub_cancel_left, List.drop_append, List.drop_eq_nil_of_le (by simp [hf]), List.nil_append]
  simp [hf]
theorem flat_snoc (L : List α) (x : α) : L.flatMap (fun x => (f x).toList) ++ (f x).toList = (L ++ [x]).flatMap (fun x => (f x).toList) := by simp
end

def hc (x : Bk × Bool) : Array Value := hcells x.1 x.2
def wc (x : Nat × Bk) : Array Value := wcells x.1 x.2
theorem size_hc (x : Bk × Bool) : (hc x).size = 65 := size_hcells _ _
theorem size_wc (x : Nat × Bk) : (wc x).size = 65 := size_wcells _ _

/-- the last write of a block that waits -/
def lastOf (W : List (Nat × Bk)) (k : Int) : Option Bk := (W.reverse.find? (fun x => (x.1 : Int) == k)).map (·.2)
theorem lastOf_nil (k : Int) : lastOf [] k = none := rfl
theorem lastOf_snoc (W : List (Nat × Bk)) (a : Nat) (b : Bk) (k : Int) : lastOf (W ++ [(a, b)]) k = if k = (a : Int) then some b else lastOf W k := by
  unfold lastOf
  rw [List.reverse_append, List.reverse_singleton, List.singleton_append, List.find?_cons]
  by_cases h : k = (a : Int)
  · subst h; simp
  · have : ((a : Int) == k) = false := by simp; exact fun e => h e.symm
    simp [this, h]

abbrev Ls := List (Bk × Bool)
abbrev Ws := List (Nat × Bk)

/-- the program's store at block p: F are its blocks -/
def StoreAt (w : World) (p : Nat) (F : List Nat) (L : Ls) (W : Ws) : Prop :=
  ∃ lb mb wv, F = p :: lb :: mb :: wv.ownBlock.toList ∧ Blk w p 102 #[.slice (some ⟨lb, 0, none⟩) L.length L.length, wv, .map (some mb)] ∧
    Blk w lb 110 (flat hc L) ∧ MapAt w mb (lastOf W) ∧ w.ownsRow 0 140 65 wv W.length (W.flatMap (fun x => (wc x).toList)) ∧
    L.length ≤ 4096 ∧ W.length ≤ 4096 ∧ ∀ x ∈ W, x.1 < L.length

theorem ownsRow_only {w w' : World} {base e size n : Nat} {v : Value} {xs : List Value} {F : List Nat} (h : w.ownsRow base e size v n xs) (ho : Only F w w') (hn : ∀ g, v.ownBlock = some g → g ∉ F) : w'.ownsRow base e size v n xs := by
  refine ⟨h.1, ?_⟩
  rcases h.2 with hh | ⟨g, cap, cur, rfl, hb, hgg, rest⟩
  · exact .inl hh
  · refine .inr ⟨g, cap, cur, rfl, hb, ?_, rest⟩
    rw [ho.block g (Array.getElem?_eq_some_iff.1 hgg).1 (hn g rfl)]
    exact hgg
theorem own_blk_ne {w : World} {base e size n g t : Nat} {v : Value} {xs : List Value} {cs : Array Value} (h : w.ownsRow base e size v n xs) (hg : Blk w g t cs) (hne : e ≠ t) : v.ownBlock ≠ some g := by
  rcases h.2 with ⟨rfl, _⟩ | ⟨g', cap, cur, rfl, _, hh, _⟩
  · simp [Value.ownBlock]
  · intro he
    have : g' = g := by simpa [Value.ownBlock] using he
    subst this
    unfold Blk at hg
    rw [hh] at hg
    injection hg with hg
    injection hg with _ ht
    exact hne ht
theorem own_map_ne {w : World} {base e size n g : Nat} {v : Value} {xs : List Value} {f : Int → Option Bk} (h : w.ownsRow base e size v n xs) (hg : MapAt w g f) : v.ownBlock ≠ some g := by
  rcases h.2 with ⟨rfl, _⟩ | ⟨g', cap, cur, rfl, _, hh, _⟩
  · simp [Value.ownBlock]
  · intro he
    have : g' = g := by simpa [Value.ownBlock] using he
    subst this
    obtain ⟨es, cl, l, hg, _⟩ := hg
    rw [hh] at hg; cases hg
theorem Blk.ne_ {w : World} {g g' t t' : Nat} {cs cs' : Array Value} (h : Blk w g t cs) (h' : Blk w g' t' cs') (hne : t ≠ t') : g ≠ g' := by
  rintro rfl
  unfold Blk at h h'
  rw [h] at h'
  injection h' with h'
  injection h' with _ ht
  exact hne ht

theorem StoreAt.lt {w : World} {p : Nat} {F : List Nat} {L : Ls} {W : Ws} (h : StoreAt w p F L W) : ∀ x ∈ F, x < w.heap.size := by
  obtain ⟨lb, mb, wv, rfl, hp, hl, hm, ho, _⟩ := h
  intro x hx
  simp only [List.mem_cons, Option.mem_toList] at hx
  rcases hx with rfl | rfl | rfl | hx
  · exact hp.lt
  · exact hl.lt
  · exact hm.lt
  · exact (ho.lt x hx).2
theorem StoreAt.only {w w' : World} {p : Nat} {F G : List Nat} {L : Ls} {W : Ws} (h : StoreAt w p F L W) (ho : Only G w w') (hd : ∀ x ∈ F, x ∉ G) : StoreAt w' p F L W := by
  obtain ⟨lb, mb, wv, rfl, hp, hl, hm, hw, r⟩ := h
  refine ⟨lb, mb, wv, rfl, hp.only ho (hd _ (by simp)), hl.only ho (hd _ (by simp)), hm.only ho (hd _ (by simp)), ownsRow_only hw ho (fun g hg => hd _ (by simp [hg])), r⟩
theorem StoreAt.mem {w : World} {p : Nat} {F : List Nat} {L : Ls} {W : Ws} (h : StoreAt w p F L W) : p ∈ F := by
  obtain ⟨lb, mb, wv, rfl, _⟩ := h; simp
end Go.Proofs.Ytkempjcdapfopaa
