/- A new store of the program, and a new one of the document, by contract. Conditions: none beyond those of each lemma. -/
import Derived.Test.YtkempjcdapfopaaDrainW
namespace Go.Proofs.Ytkempjcdapfopaa
open Go.RowKit

theorem run_make_rowN {P : Program} (t e : TypeId) (i : TypeInfo) (z : Value) (ht : P.underlying t = some (.slice e)) (hi : P.info? e = some i) (hz : i.zero = some z)
    (kl kc : IntKind) (n c : Nat) (hnc : n ≤ c) (hbytes : i.bytes * c ≤ 281474976710656) (h63 : c ≤ 9223372036854775807) (w : World) :
    (Instr.makeSlice t (.int kl (n : Int)) (.int kc (c : Int))).run P w = .ok (.slice (some ⟨w.heap.size, 0, none⟩) n c) (w.alloc (.cells (madeCells z.cells (c * i.size)) e)) := by
  have hb : (i.bytes : Int) * (c : Int) ≤ 281474976710656 := by
    have h : ((i.bytes * c : Nat) : Int) ≤ 281474976710656 := by omega
    rwa [Int.natCast_mul] at h
  have hr := run_make (P := P) w t e i z ht hi hz kl kc n c (by omega) (by omega) hb (by omega)
  simp only [Int.toNat_natCast] at hr
  exact hr

abbrev z0 : Bk × Bool := (Bk.zero, false)
theorem made_flat (n : Nat) : madeCells (hcells Bk.zero false) (n * 65) = flat hc (List.replicate n z0) := by
  apply Array.ext_getElem?
  intro i
  by_cases hi : i < n * 65
  · have hq : i / 65 < n := Nat.div_lt_of_lt_mul (by omega)
    have hL : (List.replicate n z0)[i / 65]? = some z0 := by simp [hq]
    have h2 := flat_get size_hc hL (i % 65) (Nat.mod_lt _ (by omega))
    have e : i / 65 * 65 + i % 65 = i := by omega
    rw [e] at h2
    rw [h2]
    have hm : i % 65 < (hcells Bk.zero false).size := by rw [size_hcells]; exact Nat.mod_lt _ (by omega)
    simp only [madeCells, Array.getElem?_map, Array.getElem?_range]
    simp [hi, size_hcells, hc]
    rw [Array.getElem?_eq_getElem hm]
    exact congrArg some (getElem!_pos (hcells Bk.zero false) (i % 65) hm)
  · rw [Array.getElem?_eq_none (by simp [madeCells]; omega), Array.getElem?_eq_none (by rw [size_flat size_hc]; simp; omega)]

theorem make96 (n : Nat) (hn : n ≤ 4096) (w : World) : (Instr.makeSlice 96 (.int .i64 n) (.int .i64 n)).run Try.prog w = .ok (.slice (some ⟨w.heap.size, 0, none⟩) n n) (w.alloc (.cells (flat hc (List.replicate n z0)) 110)) := by
  obtain ⟨i0, hi0, hz0, hz1, hz2⟩ := info_parts info110
  rw [run_make_rowN 96 110 i0 _ Try.underlying96 hi0 hz0 .i64 .i64 n n (Nat.le_refl _) (by rw [hz2]; omega) (by omega) w, hz1]
  rw [← made_flat]; rfl
theorem make41 (n : Nat) (hn : n ≤ 4096) (w : World) : (Instr.makeSlice 41 (.int .i64 n) (.int .i64 n)).run Try.prog w = .ok (.slice (some ⟨w.heap.size, 0, none⟩) n n) (w.alloc (.cells (flat hc (List.replicate n z0)) 106)) := by
  obtain ⟨i0, hi0, hz0, hz1, hz2⟩ := info_parts info106
  rw [run_make_rowN 41 106 i0 _ Try.underlying41 hi0 hz0 .i64 .i64 n n (Nat.le_refl _) (by rw [hz2]; omega) (by omega) w, hz1]
  rw [← made_flat]; rfl

/-- a new store -/
theorem new_yes (w : World) (n : Nat) (h1 : 1 ≤ n) (h2 : n ≤ 4096) :
    Calls Try.prog 16 #[.int .i64 n] w fun e w' => ∃ p F, e = .returned (.tuple #[.pointer (some ⟨p, 0, none⟩), .int .i64 0]) ∧ StoreAt w' p F (List.replicate n z0) [] ∧ Only [] w w' ∧ ∀ x ∈ F, w.heap.size ≤ x := by
  have hmm := @run_makeMap Try.prog
  have hmk := make96 n h2
  go_enter Try.func16, Try.ntmps16
  go_wp2
  go_ret2
  refine ⟨w.heap.size + 1 + 1, [w.heap.size + 1 + 1, w.heap.size, w.heap.size + 1], rfl, ⟨w.heap.size, w.heap.size + 1, .slice none 0 0, rfl, ?_, ?_, ?_, ⟨rfl, .inl ⟨rfl, rfl⟩⟩, by simpa using h2, by simp, by simp⟩, (((Only.refl [] w).alloc _).alloc _).alloc _, by simp; omega⟩
  · have := Blk.new ((w.alloc (Obj.cells (flat hc (List.replicate n z0)) 110)).alloc (Obj.map #[] 0)) 102 #[Value.slice (some { block := w.heap.size, off := 0 }) n n, Value.slice none 0 0, Value.map (some (w.heap.size + 1))]
    simpa using this
  · exact ((Blk.new w 110 (flat hc (List.replicate n z0))).alloc _).alloc _
  · have := MapAt.new (w.alloc (Obj.cells (flat hc (List.replicate n z0)) 110))
    have h3 := this.same (Below.heap_alloc _ (Obj.cells #[Value.slice (some { block := w.heap.size, off := 0 }) n n, Value.slice none 0 0, Value.map (some (w.heap.size + 1))] 102) _ this.lt)
    have e : lastOf [] = fun _ => none := by funext k; rfl
    rw [e]
    simpa using h3
theorem new_no (w : World) (n : Int) (h : n < 1 ∨ 4096 < n) :
    Calls Try.prog 16 #[.int .i64 n] w fun e w' => e = .returned (.tuple #[.pointer none, .int .i64 2]) ∧ w = w' := by
  rcases h with h | h
  · go_enter Try.func16, Try.ntmps16
    go_wp2
    go_ret2
    exact ⟨rfl, rfl⟩
  · have h' : 1 ≤ n := by omega
    go_enter Try.func16, Try.ntmps16
    go_wp2
    go_ret2
    exact ⟨rfl, rfl⟩

/-- the document's store at block p: F are its blocks -/
def RefAt (w : World) (p : Nat) (F : List Nat) (L : Ls) (W : Ws) : Prop :=
  ∃ lb wv, F = p :: lb :: wv.ownBlock.toList ∧ Blk w p 44 #[.slice (some ⟨lb, 0, none⟩) L.length L.length, wv] ∧
    Blk w lb 106 (flat hc L) ∧ w.ownsRow 0 104 65 wv W.length (W.flatMap (fun x => (wc x).toList)) ∧
    L.length ≤ 4096 ∧ W.length ≤ 4096 ∧ ∀ x ∈ W, x.1 < L.length
theorem RefAt.lt {w : World} {p : Nat} {F : List Nat} {L : Ls} {W : Ws} (h : RefAt w p F L W) : ∀ x ∈ F, x < w.heap.size := by
  obtain ⟨lb, wv, rfl, hp, hl, ho, _⟩ := h
  intro x hx
  simp only [List.mem_cons, Option.mem_toList] at hx
  rcases hx with rfl | rfl | hx
  · exact hp.lt
  · exact hl.lt
  · exact (ho.lt x hx).2
theorem RefAt.only {w w' : World} {p : Nat} {F G : List Nat} {L : Ls} {W : Ws} (h : RefAt w p F L W) (ho : Only G w w') (hd : ∀ x ∈ F, x ∉ G) : RefAt w' p F L W := by
  obtain ⟨lb, wv, rfl, hp, hl, hw, r⟩ := h
  exact ⟨lb, wv, rfl, hp.only ho (hd _ (by simp)), hl.only ho (hd _ (by simp)), ownsRow_only hw ho (fun g hg => hd _ (by simp [hg])), r⟩
def MovedR (w w' : World) (p : Nat) (F : List Nat) (L : Ls) (W : Ws) : Prop := ∃ F', RefAt w' p F' L W ∧ Only F w w' ∧ ∀ x ∈ F', x ∈ F ∨ w.heap.size ≤ x
theorem MovedR.refl {w w' : World} {p : Nat} {F : List Nat} {L : Ls} {W : Ws} (h : RefAt w p F L W) (ho : Only [] w w') : MovedR w w' p F L W :=
  ⟨F, h.only ho (by simp), ho.mono (by simp), fun x hx => .inl hx⟩

theorem newR_yes (w : World) (n : Nat) (h1 : 1 ≤ n) (h2 : n ≤ 4096) :
    Calls Try.prog 17 #[.int .i64 n] w fun e w' => ∃ p F, e = .returned (.tuple #[.pointer (some ⟨p, 0, none⟩), .int .i64 0]) ∧ RefAt w' p F (List.replicate n z0) [] ∧ Only [] w w' ∧ ∀ x ∈ F, w.heap.size ≤ x := by
  have hmk := make41 n h2
  go_enter Try.func17, Try.ntmps17
  go_wp2
  go_ret2
  refine ⟨w.heap.size + 1, [w.heap.size + 1, w.heap.size], rfl, ⟨w.heap.size, .slice none 0 0, rfl, ?_, ?_, ⟨rfl, .inl ⟨rfl, rfl⟩⟩, by simpa using h2, by simp, by simp⟩, ((Only.refl [] w).alloc _).alloc _, by simp⟩
  · have := Blk.new (w.alloc (Obj.cells (flat hc (List.replicate n z0)) 106)) 44 #[Value.slice (some { block := w.heap.size, off := 0 }) n n, Value.slice none 0 0]
    simpa using this
  · exact (Blk.new w 106 (flat hc (List.replicate n z0))).alloc _
theorem newR_no (w : World) (n : Int) (h : n < 1 ∨ 4096 < n) :
    Calls Try.prog 17 #[.int .i64 n] w fun e w' => e = .returned (.tuple #[.pointer none, .int .i64 2]) ∧ w = w' := by
  rcases h with h | h
  · go_enter Try.func17, Try.ntmps17
    go_wp2
    go_ret2
    exact ⟨rfl, rfl⟩
  · have h' : 1 ≤ n := by omega
    go_enter Try.func17, Try.ntmps17
    go_wp2
    go_ret2
    exact ⟨rfl, rfl⟩

/-- a block that begins with bytes -/
def ofL (zs : List Int) : List Int := (zs.take 64) ++ List.replicate (64 - zs.length) 0
theorem ofL_len (zs : List Int) : (ofL zs).length = 64 := by simp [ofL]; omega
theorem ofL_byt (zs : List Int) (h : ∀ z ∈ zs, 0 ≤ z ∧ z < 256) : ∀ z ∈ ofL zs, 0 ≤ z ∧ z < 256 := by
  intro z hz
  simp only [ofL, List.mem_append] at hz
  rcases hz with hz | hz
  · exact h z (List.mem_of_mem_take hz)
  · have := List.eq_of_mem_replicate hz; omega
def ofB (zs : List Int) (h : ∀ z ∈ zs, 0 ≤ z ∧ z < 256) : Bk := ⟨ofL zs, ofL_len zs, ofL_byt zs h⟩
end Go.Proofs.Ytkempjcdapfopaa
