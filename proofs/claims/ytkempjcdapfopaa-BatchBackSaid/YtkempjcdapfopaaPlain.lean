/- Stores as the document has them, in plain Lean: what a sync, a crash and a write do to what is read. Conditions: none beyond those of each lemma. -/
import Derived.Test.YtkempjcdapfopaaArr
namespace Go.Proofs.Ytkempjcdapfopaa

theorem settle1_get (L : Ls) (x : Nat × Bk) (f : Int) (k : Nat) (hx : x.1 < L.length) : (settle1 L x f)[k]? = if k = x.1 then (if f = 1 then some (x.2, false) else if f = 2 then some (Bk.zero, true) else L[k]?) else L[k]? := by
  unfold settle1
  by_cases h1 : f = 1
  · simp only [h1, if_true, List.getElem?_set]
    by_cases hk : k = x.1
    · subst hk; simp [hx]
    · simp [hk, Ne.symm hk]
  · by_cases h2 : f = 2
    · simp only [h2, if_true, List.getElem?_set]
      by_cases hk : k = x.1
      · subst hk; simp [hx]
      · simp [hk, Ne.symm hk]
    · simp [h1, h2]

theorem snoc_ind {α : Type} {P : List α → Prop} (h0 : P []) (h1 : ∀ W x, P W → P (W ++ [x])) (W : List α) : P W := by
  have : ∀ l : List α, P l.reverse := by
    intro l
    induction l with
    | nil => exact h0
    | cons x l ih => rw [List.reverse_cons]; exact h1 _ x ih
  have h := this W.reverse
  rwa [List.reverse_reverse] at h

/-- behind a sync each block is its last write -/
theorem sync_get (L : Ls) (W : Ws) (hW : ∀ x ∈ W, x.1 < L.length) (k : Nat) : (settleL L W (fun _ => 1) 0)[k]? = match lastOf W (k : Int) with | some b => some (b, false) | none => L[k]? := by
  revert hW
  refine snoc_ind (P := fun W => (∀ x ∈ W, x.1 < L.length) → (settleL L W (fun _ => 1) 0)[k]? = match lastOf W (k : Int) with | some b => some (b, false) | none => L[k]?) ?_ ?_ W
  · intro _; rfl
  · intro W x ih hW
    have hW' : ∀ y ∈ W, y.1 < L.length := fun y hy => hW y (by simp [hy])
    have hx : x.1 < L.length := hW x (by simp)
    rw [settleL_snoc, settle1_get _ _ _ _ (by rw [settleL_len]; exact hx), ih hW', show x = (x.1, x.2) from rfl, lastOf_snoc]
    by_cases hk : k = x.1
    · subst hk; simp
    · have : ¬ (k : Int) = (x.1 : Int) := by omega
      simp [hk, this]

theorem rd_in {L : Ls} {W : Ws} {k : Nat} (hk : k < L.length) : (rdB L W k = match lastOf W (k : Int) with | some b => b | none => if (L.getD k z0).2 then Bk.zero else (L.getD k z0).1) ∧ (rdE L W k = match lastOf W (k : Int) with | some _ => 0 | none => if (L.getD k z0).2 then 7 else 0) := by
  have h : (0 : Int) ≤ k ∧ (k : Int) < L.length := by omega
  unfold rdB rdE
  rw [if_pos h, if_pos h]
  exact ⟨rfl, rfl⟩
theorem getD_of {α : Type} {L L' : List α} {k : Nat} {d : α} (h : L[k]? = L'[k]?) : L.getD k d = L'.getD k d := by simp [List.getD, h]

/-- a sync changes nothing that is read -/
theorem sync_rd {L : Ls} {W : Ws} (hW : ∀ x ∈ W, x.1 < L.length) {k : Nat} (hk : k < L.length) :
    rdB (settleL L W (fun _ => 1) 0) [] k = rdB L W k ∧ rdE (settleL L W (fun _ => 1) 0) [] k = rdE L W k := by
  have h1 := rd_in (L := settleL L W (fun _ => 1) 0) (W := []) (k := k) (by rw [settleL_len]; exact hk)
  have h2 := rd_in (L := L) (W := W) hk
  rw [h1.1, h1.2, h2.1, h2.2]
  have hg := sync_get L W hW k
  rw [lastOf_nil]
  cases hl : lastOf W (k : Int) with
  | some b =>
    rw [hl] at hg
    simp only [] at hg
    have : (settleL L W (fun _ => 1) 0).getD k z0 = (b, false) := by simp [List.getD, hg]
    simp only [this]
    exact ⟨rfl, rfl⟩
  | none =>
    rw [hl] at hg
    simp only [] at hg
    have : (settleL L W (fun _ => 1) 0).getD k z0 = L.getD k z0 := getD_of hg
    simp only [this]
    exact ⟨trivial, trivial⟩

/-- what a write does to what is read -/
theorem write_rd {L : Ls} {W : Ws} {a : Nat} {b : Bk} {k : Nat} (hk : k < L.length) :
    rdB L (W ++ [(a, b)]) k = (if k = a then b else rdB L W k) ∧ rdE L (W ++ [(a, b)]) k = (if k = a then 0 else rdE L W k) := by
  have h1 := rd_in (L := L) (W := W ++ [(a, b)]) hk
  have h2 := rd_in (L := L) (W := W) hk
  rw [h1.1, h1.2, h2.1, h2.2, lastOf_snoc]
  by_cases h : k = a
  · subst h; simp
  · have : ¬ (k : Int) = (a : Int) := by omega
    simp [h, this]

theorem getD_rep {α : Type} (n : Nat) (a : α) (k : Nat) : (List.replicate n a).getD k a = a := by
  rw [List.getD_eq_getElem?_getD, List.getElem?_replicate]; split <;> rfl
/-- all is read as it was wanted -/
def Good (L : Ls) (W : Ws) (want : List Bk) : Prop := L.length = 30 ∧ want.length = 30 ∧ ∀ k : Nat, k < 30 → rdB L W k = want.getD k Bk.zero ∧ rdE L W k = 0
theorem good_new : Good (List.replicate 30 z0) [] bk30 := by
  refine ⟨by simp, by simp [bk30], fun k hk => ?_⟩
  have h := rd_in (L := List.replicate 30 z0) (W := []) (k := k) (by simpa using hk)
  rw [h.1, h.2, lastOf_nil]
  have e1 : (List.replicate 30 z0).getD k z0 = z0 := getD_rep _ _ _
  have e2 : bk30.getD k Bk.zero = Bk.zero := getD_rep _ _ _
  simp only [e1, e2]
  exact ⟨rfl, rfl⟩
theorem wrE_zero {L : Ls} {W : Ws} {a : Int} (h : wrE L W a = 0) : 0 ≤ a ∧ a < L.length ∧ W.length < 4096 := by
  unfold wrE at h
  split at h
  · split at h
    · omega
    · omega
  · omega
theorem good_write {L : Ls} {W : Ws} {want : List Bk} {a : Int} {b : Bk} (h : Good L W want) (he : wrE L W a = 0) : Good L (wrW L W a b) (want.set a.toNat b) ∧ ∃ n : Nat, a = n ∧ n < 30 := by
  obtain ⟨h0, h1, _⟩ := wrE_zero he
  obtain ⟨n, rfl⟩ := Int.eq_ofNat_of_zero_le h0
  have hn : n < 30 := by have := h.1; omega
  have hw : wrW L W n b = W ++ [(n, b)] := by unfold wrW; rw [he]; rfl
  rw [hw]
  refine ⟨⟨h.1, by rw [List.length_set]; exact h.2.1, fun k hk => ?_⟩, n, rfl, hn⟩
  have := write_rd (L := L) (W := W) (a := n) (b := b) (k := k) (by rw [h.1]; exact hk)
  rw [this.1, this.2]
  by_cases hkn : k = n
  · subst hkn
    have hl : k < want.length := by rw [h.2.1]; exact hk
    simp [List.getD, hl]
  · have := h.2.2 k hk
    have e : (want.set n b).getD k Bk.zero = want.getD k Bk.zero := by simp [List.getD, List.getElem?_set, Ne.symm hkn]
    simp only [hkn, if_false, Int.toNat_natCast, e]
    exact this
theorem good_keep {L : Ls} {W : Ws} {want : List Bk} {a : Int} {b : Bk} (h : Good L W want) (he : wrE L W a ≠ 0) : Good L (wrW L W a b) want := by
  have : wrW L W a b = W := by unfold wrW; rw [if_neg he]
  rw [this]; exact h
theorem good_sync {L : Ls} {W : Ws} {want : List Bk} (h : Good L W want) (hW : ∀ x ∈ W, x.1 < L.length) : Good (settleL L W (fun _ => 1) 0) [] want := by
  refine ⟨by rw [settleL_len]; exact h.1, h.2.1, fun k hk => ?_⟩
  have := sync_rd hW (k := k) (by rw [h.1]; exact hk)
  rw [this.1, this.2]
  exact h.2.2 k hk
end Go.Proofs.Ytkempjcdapfopaa
