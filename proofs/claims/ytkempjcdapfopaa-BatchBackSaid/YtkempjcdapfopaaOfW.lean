/- A block made of bytes, by contract. Conditions: the bytes lie in memory as 'Bytes' says. -/
import Derived.Test.YtkempjcdapfopaaNewW
namespace Go.Proofs.Ytkempjcdapfopaa
open Go.RowKit

theorem ofB_take {zs : List Int} (h : ∀ z ∈ zs, 0 ≤ z ∧ z < 256) (k : Nat) : ∀ z ∈ zs.take k, 0 ≤ z ∧ z < 256 := fun z hz => h z (List.mem_of_mem_take hz)
theorem ofL_get (zs : List Int) (i : Nat) : (ofL zs)[i]? = if i < 64 then some (zs.getD i 0) else none := by
  unfold ofL
  by_cases hi : i < 64
  · rw [if_pos hi]
    by_cases hz : i < zs.length
    · rw [List.getElem?_append_left (by simp; omega), List.getElem?_take, if_pos hi, List.getElem?_eq_getElem hz]
      simp [List.getElem?_eq_getElem hz]
    · rw [List.getElem?_append_right (by simp; omega), List.getElem?_replicate, if_pos (by simp; omega)]
      simp [List.getElem?_eq_none (show zs.length ≤ i by omega)]
  · rw [if_neg hi, List.getElem?_eq_none (by have := ofL_len zs; unfold ofL at this; omega)]
theorem getD_take (zs : List Int) (k i : Nat) : (zs.take k).getD i 0 = if i < k then zs.getD i 0 else 0 := by
  simp only [List.getD_eq_getElem?_getD, List.getElem?_take]
  split <;> simp
theorem ofB_step {zs : List Int} (h : ∀ z ∈ zs, 0 ≤ z ∧ z < 256) {k : Nat} (hk : k < zs.length) (h64 : k < 64) :
    (ofB (zs.take k) (ofB_take h k)).cells.setIfInBounds k (.int .u8 zs[k]) = (ofB (zs.take (k + 1)) (ofB_take h (k + 1))).cells := by
  apply Array.ext'
  simp only [Bk.cells, ofB, Array.toList_setIfInBounds]
  apply List.ext_getElem?
  intro i
  simp only [List.getElem?_set, List.length_map, ofL_len, List.getElem?_map, ofL_get, getD_take]
  by_cases hi : i < 64
  · simp only [hi, if_true, h64]
    by_cases hki : k = i
    · subst hki
      simp [List.getElem?_eq_getElem hk]
    · by_cases hlt : i < k
      · simp [hki, hlt, show i < k + 1 by omega]
      · simp [hki, hlt, show ¬ i < k + 1 by omega]
  · simp [hi, show ¬ k = i by omega]
theorem ofB_full {zs : List Int} (h : ∀ z ∈ zs, 0 ≤ z ∧ z < 256) {k : Nat} (hk : k ≤ zs.length) (h2 : zs.length ≤ k ∨ 64 ≤ k) : ofB (zs.take k) (ofB_take h k) = ofB zs h := by
  apply Bk.ext'
  simp only [ofB]
  apply List.ext_getElem?
  intro i
  simp only [ofL_get, getD_take]
  by_cases hi : i < 64
  · simp only [hi, if_true]
    by_cases hlt : i < k
    · simp [hlt]
    · simp [hlt, List.getElem?_eq_none (show zs.length ≤ i by omega)]
  · simp [hi]
theorem ofB_zero : (ofB [] (by simp)).cells = Bk.zero.cells := rfl

set_option maxRecDepth 100000 in
set_option maxHeartbeats 800000 in
theorem of_any (w : World) (B : Nat) (v : Value) (zs : List Int) (hv : Bytes w B v zs) (hz : ∀ z ∈ zs, 0 ≤ z ∧ z < 256) (hmax : zs.length ≤ 1000000) (hB : B ≤ w.heap.size) :
    Calls Try.prog 20 #[v] w fun e w' => e = .returned (.agg (ofB zs hz).cells) ∧ Only [] w w' := by
  obtain ⟨A, c, rfl, _, ha⟩ := hv
  have HA := hide ha
  have HZ := hide hz
  clear ha
  go_enter Try.func20, Try.ntmps20
  go_wp2
  go_loopw [4] (fun i wr => ∃ k : Nat, k ≤ zs.length ∧ k ≤ 64 ∧ i = .int .i64 k ∧ Blk wr (w.heap.size + 1) 37 (ofB (zs.take k) (ofB_take hz k)).cells ∧ Blk wr w.heap.size 37 Bk.zero.cells ∧ Only [] w wr) (fun i _ => 64 - (intOf i).toNat)
  case atStart => exact ⟨0, Nat.zero_le _, Nat.zero_le _, rfl, by
      have := Blk.new (w.alloc (Obj.cells Bk.zero.cells 37)) 37 Bk.zero.cells
      simpa [ofB_zero] using this, (Blk.new w 37 _).alloc _, ((Only.refl [] w).alloc _).alloc _⟩
  case round =>
    obtain ⟨k, hk, h64, rfl, hb, hr, ho⟩ := hrel
    by_cases hlt : k < zs.length
    · obtain ⟨b, o, hA, hbB, hc⟩ := HA.out (by omega)
      have hcb : w.cell? ⟨b, o + k, none⟩ = some (.int .u8 zs[k]) := hc k hlt
      have lb := World.block_lt_of_cell? w _ hcb
      have hcr : wr.cell? ⟨b, o + k, none⟩ = some (.int .u8 zs[k]) := by
        rw [← hcb]; exact World.cell?_of_block (ho.block b lb (by simp))
      subst hA
      by_cases h6 : k < 64
      · have hcc : wr.cell? ⟨w.heap.size + 1, k, none⟩ = some ((ofB (zs.take k) (ofB_take hz k)).cells[k]'(by rw [Bk.size_cells]; exact h6)) := by
          rw [hb.cell]; exact Array.getElem?_eq_getElem _
        have hff : wr.frozen? ⟨w.heap.size + 1, k, none⟩ = false := hb.frozen k
        generalize (ofB (zs.take k) (ofB_take hz k)).cells[k]'(by rw [Bk.size_cells]; exact h6) = vv at hcc
        have HR := hide (And.intro hb (And.intro hr ho))
        have HC := hide (And.intro hc hcb)
        clear hb hr ho hc hcb
        go_wp2
        go_roundw
        case rel =>
          refine ⟨k + 1, by omega, by omega, by go_num, ?_, HR.out.2.1.far (by simp) _, HR.out.2.2.setCell (.inr (by simp)) _⟩
          have := HR.out.1.set_ k (.int .u8 zs[k])
          rw [ofB_step hz hlt h6] at this
          exact this
        case measure => simp [intOf]; omega
      · have h6' : (64 : Int) ≤ (k : Int) := by omega
        have e := ofB_full hz hk (.inr (by omega))
        have hrw : row wr (w.heap.size + 1) 0 64 = some (ofB zs hz).cells := by rw [hb.row 0 64 (by simp), Bk.ext_cells, e]
        have hcp : canPut wr w.heap.size 0 64 = true := hr.canPut 0 64 (by simp)
        have HR := hide (And.intro hr ho)
        clear hb hr ho e
        go_wp2
        have hb2 := HR.out.1.put_ 0 (ofB zs hz).cells
        rw [splice_all (by simp)] at hb2
        exact bodyPost_ret (results_cell_one (n := 64) rfl _ Try.underlying37 rfl sz37 _ _ w.heap.size (ofB zs hz).cells rfl (by rw [hb2.row 0 64 (by simp), Bk.ext_cells])) rfl ⟨rfl, HR.out.2.put (.inr (Nat.le_refl _)) _ _⟩
    · have hge : (zs.length : Int) ≤ (k : Int) := by omega
      have e := ofB_full hz hk (.inl (by omega))
      have hrw : row wr (w.heap.size + 1) 0 64 = some (ofB zs hz).cells := by rw [hb.row 0 64 (by simp), Bk.ext_cells, e]
      have hcp : canPut wr w.heap.size 0 64 = true := hr.canPut 0 64 (by simp)
      have HR := hide (And.intro hr ho)
      clear hb hr ho e
      go_wp2
      have hb2 := HR.out.1.put_ 0 (ofB zs hz).cells
      rw [splice_all (by simp)] at hb2
      exact bodyPost_ret (results_cell_one (n := 64) rfl _ Try.underlying37 rfl sz37 _ _ w.heap.size (ofB zs hz).cells rfl (by rw [hb2.row 0 64 (by simp), Bk.ext_cells])) rfl ⟨rfl, HR.out.2.put (.inr (Nat.le_refl _)) _ _⟩
end Go.Proofs.Ytkempjcdapfopaa
