/- Rows of cells as equations: a whole array or struct is read from and written into a block by 'row' and 'put'; 'Only' says which old blocks may have changed. Conditions: none beyond those of each lemma. -/
import Derived.Test.YtkempjcdapfopaaProg
import Derived.WalkKit
import Derived.WalkSpells
import Derived.WalkLawsBesides
import Derived.Deep.MidRow
namespace Go.Proofs.Ytkempjcdapfopaa
open Go.RowKit

theorem hide {p : Prop} (h : p) : Hid p := h

/-- cells from o on, n of them -/
def row (w : World) (b o n : Nat) : Option (Array Value) :=
  match w.heap[b]? with
  | some (.cells c _ _) => if o + n ≤ c.size then some (c.extract o (o + n)) else none
  | _ => none

def canPut (w : World) (b o n : Nat) : Bool :=
  match w.heap[b]? with
  | some (.cells c _ (lo, hi)) => lo == 0 && hi == 0 && decide (o + n ≤ c.size)
  | _ => false

def splice (c : Array Value) (o : Nat) (cs : Array Value) : Array Value := (c.toList.take o ++ cs.toList ++ c.toList.drop (o + cs.size)).toArray

def put (w : World) (b o : Nat) (cs : Array Value) : World :=
  { w with heap := w.heap.modify b fun
      | .cells c e fr => .cells (splice c o cs) e fr
      | x => x }

theorem row_cells {w : World} {b o n : Nat} {cs : Array Value} (h : row w b o n = some cs) : cs.size = n ∧ w.rangeAt b o cs.toList := by
  unfold row at h
  split at h
  · rename_i c t fr hb
    split at h
    · rename_i hle
      injection h with h
      subst h
      refine ⟨by simp; omega, fun j v hv => ?_⟩
      rw [cell_of_row w b (o + j) c t fr hb]
      simp only [Array.getElem?_toList, Array.getElem?_extract] at hv
      split at hv
      · exact hv
      · cases hv
    · cases h
  · cases h

def loadElse (P : Program) (ty : TypeId) (b o : Nat) (w : World) : Result Value := (Instr.loadAt ty (.pointer (some ⟨b, o, none⟩))).run P w
def loadRes (P : Program) (ty : TypeId) (b o : Nat) (w : World) : Option (Array Value) → Result Value
  | some cs => .ok (.agg cs) w
  | none => loadElse P ty b o w
theorem loadRes_some (P : Program) (ty : TypeId) (b o : Nat) (w : World) (cs : Array Value) : loadRes P ty b o w (some cs) = .ok (.agg cs) w := rfl

theorem run_loadAt_row {P : Program} (ty n : Nat) (d : TypeDesc) (hu : P.underlying ty = some d) (hd : d.isRow = true) (hi : (P.info? ty).map (·.size) = some n) (w : World) (b o : Nat) :
    (Instr.loadAt ty (.pointer (some ⟨b, o, none⟩))).run P w = loadRes P ty b o w (row w b o n) := by
  cases h : row w b o n with
  | none => rfl
  | some cs =>
    obtain ⟨hs, hr⟩ := row_cells h
    have := run_loadAt_mid (P := P) w b o ty cs.toList d hr hu hd (by rw [hi]; simp [hs])
    rw [this]; simp [loadRes]

def storeElse (P : Program) (ty : TypeId) (b o : Nat) (v : Value) (w : World) : Result Unit := (Instr.storeAt ty (.pointer (some ⟨b, o, none⟩)) v).run P w
def storeRes (P : Program) (ty : TypeId) (b o : Nat) (cs : Array Value) (w : World) : Bool → Result Unit
  | true => .ok () (put w b o cs)
  | false => storeElse P ty b o (.agg cs) w
theorem storeRes_true (P : Program) (ty : TypeId) (b o : Nat) (w : World) (cs : Array Value) : storeRes P ty b o cs w true = .ok () (put w b o cs) := rfl

theorem canPut_there {w : World} {b o n : Nat} (h : canPut w b o n = true) : w.there b o n := by
  unfold canPut at h
  split at h
  · rename_i c t lo hi hb
    simp only [Bool.and_eq_true, beq_iff_eq, decide_eq_true_eq] at h
    obtain ⟨⟨rfl, rfl⟩, hle⟩ := h
    intro j hj
    refine ⟨?_, ?_⟩
    · rw [cell_of_row w b (o + j) c t (0, 0) hb, Array.getElem?_eq_getElem (by omega)]; rfl
    · simp [World.frozen?, hb]
  · cases h

theorem setCells_put (b : Nat) : ∀ (vs : List Value) (o : Nat) (w : World) (c : Array Value) (t : TypeId) (fr : Nat × Nat), w.heap[b]? = some (.cells c t fr) → o + vs.length ≤ c.size →
    w.setCells b o vs = { w with heap := w.heap.setIfInBounds b (.cells (c.toList.take o ++ vs ++ c.toList.drop (o + vs.length)).toArray t fr) }
  | [], o, w, c, t, fr, hb, hle => by
    have : (c.toList.take o ++ [] ++ c.toList.drop (o + 0)).toArray = c := by simp
    simp only [World.setCells, List.length_nil, this]
    have : w.heap.setIfInBounds b (.cells c t fr) = w.heap := by
      apply Array.ext_getElem?
      intro i
      rw [Array.getElem?_setIfInBounds]
      split
      · subst_vars
        split
        · exact hb.symm
        · rw [Array.getElem?_eq_none (by omega)]
      · rfl
    rw [this]
  | v :: r, o, w, c, t, fr, hb, hle => by
    have hlt : b < w.heap.size := by
      rcases Nat.lt_or_ge b w.heap.size with h | h
      · exact h
      · rw [Array.getElem?_eq_none h] at hb; cases hb
    have hset : (w.setCell ⟨b, o, none⟩ v).heap[b]? = some (.cells (c.setIfInBounds o v) t fr) := by
      simp [World.setCell, Array.getElem?_modify, hb]
    rw [World.setCells, setCells_put b r (o + 1) _ (c.setIfInBounds o v) t fr hset (by simp at hle ⊢; omega)]
    simp only [World.setCell]
    congr 1
    apply Array.ext_getElem?
    intro i
    simp only [Array.getElem?_setIfInBounds, Array.getElem?_modify, Array.size_modify]
    by_cases hi : b = i
    · subst hi
      simp only [hlt, if_true]
      congr 2
      apply congrArg List.toArray
      simp only [List.length_cons] at hle
      have ho : o < c.size := by omega
      apply List.ext_getElem?
      intro j
      simp only [List.getElem?_append, List.length_take, List.length_append, List.length_cons, Array.toList_setIfInBounds, List.length_set, List.getElem?_take, List.getElem?_drop, List.getElem?_set, Array.length_toList, List.getElem?_cons]
      grind
    · simp [hi]

theorem run_storeAt_row {P : Program} (ty n : Nat) (hi : (P.info? ty).map (·.size) = some n) (w : World) (b o : Nat) (cs : Array Value) (hs : cs.size = n) (h1 : cs.all (·.oneCell') = true) :
    (Instr.storeAt ty (.pointer (some ⟨b, o, none⟩)) (.agg cs)).run P w = storeRes P ty b o cs w (canPut w b o n) := by
  cases h : canPut w b o n with
  | false => rfl
  | true =>
    have ht := canPut_there h
    have := run_storeAt_mid (P := P) w b o ty cs (by rw [hs]; exact ht) (by rw [hi, hs]) h1
    rw [this]
    show _ = Result.ok () (put w b o cs)
    congr 1
    unfold canPut at h
    split at h
    · rename_i c t lo hi hb
      simp only [Bool.and_eq_true, beq_iff_eq, decide_eq_true_eq] at h
      obtain ⟨⟨rfl, rfl⟩, hle⟩ := h
      rw [setCells_put b cs.toList o w c t (0, 0) hb (by simp; omega)]
      unfold put
      congr 1
      apply Array.ext_getElem?
      intro i
      simp only [Array.getElem?_setIfInBounds, Array.getElem?_modify]
      by_cases hi : b = i
      · subst hi
        have hlt : b < w.heap.size := by
          rcases Nat.lt_or_ge b w.heap.size with h | h
          · exact h
          · rw [Array.getElem?_eq_none h] at hb; cases hb
        have hbb : w.heap[b] = .cells c t (0, 0) := by
          rw [Array.getElem?_eq_getElem hlt] at hb
          injection hb
        simp [hlt, hbb, splice]
      · simp [hi]
    · cases h

/-! the frame -/
theorem row_alloc_at (w : World) (c : Array Value) (t : TypeId) (n k : Nat) (hn : n = w.heap.size) (hk : c.size = k) : row (w.alloc (.cells c t)) n 0 k = some c := by
  subst hn; subst hk
  have : (w.alloc (.cells c t)).heap[w.heap.size]? = some (.cells c t (0, 0)) := heap_alloc_new w _
  unfold row
  rw [this]
  simp
theorem row_alloc_past (w : World) (ob : Obj) (b o n : Nat) (h : b < w.heap.size) : row (w.alloc ob) b o n = row w b o n := by
  simp [row, Below.heap_alloc w ob b h]
theorem canPut_alloc_at (w : World) (c : Array Value) (t : TypeId) (n k : Nat) (hn : n = w.heap.size) (hk : c.size = k) : canPut (w.alloc (.cells c t)) n 0 k = true := by
  subst hn; subst hk
  have : (w.alloc (.cells c t)).heap[w.heap.size]? = some (.cells c t (0, 0)) := heap_alloc_new w _
  unfold canPut
  rw [this]
  simp
theorem canPut_alloc_past (w : World) (ob : Obj) (b o n : Nat) (h : b < w.heap.size) : canPut (w.alloc ob) b o n = canPut w b o n := by
  simp [canPut, Below.heap_alloc w ob b h]
theorem row_drew (w : World) (b o n : Nat) : row w.drew b o n = row w b o n := rfl
theorem canPut_drew (w : World) (b o n : Nat) : canPut w.drew b o n = canPut w b o n := rfl
theorem put_drew (w : World) (b o : Nat) (cs : Array Value) : put w.drew b o cs = (put w b o cs).drew := rfl
theorem row_drewN (w : World) (k b o n : Nat) : row (w.drewN k) b o n = row w b o n := rfl
theorem canPut_drewN (w : World) (k b o n : Nat) : canPut (w.drewN k) b o n = canPut w b o n := rfl

theorem put_alloc_at (w : World) (c : Array Value) (t : TypeId) (n : Nat) (cs : Array Value) (hn : n = w.heap.size) (hk : c.size = cs.size) : put (w.alloc (.cells c t)) n 0 cs = w.alloc (.cells cs t) := by
  subst hn
  unfold put World.alloc
  congr 1
  apply Array.ext_getElem?
  intro i
  simp only [Array.getElem?_modify, Array.getElem?_push]
  by_cases hi : w.heap.size = i
  · subst hi
    have hd : c.toList.drop cs.size = [] := List.drop_eq_nil_of_le (by simp; omega)
    simp [splice, hd]
  · simp [hi, Ne.symm hi]
theorem put_alloc_past (w : World) (ob : Obj) (n o : Nat) (cs : Array Value) (hn : n < w.heap.size) : put (w.alloc ob) n o cs = (put w n o cs).alloc ob := by
  unfold put World.alloc
  congr 1
  apply Array.ext_getElem?
  intro k
  simp only [Array.getElem?_modify, Array.getElem?_push, Array.size_modify]
  by_cases hk : k = w.heap.size
  · subst hk
    simp [Nat.ne_of_lt hn]
  · simp [hk]

theorem put_heap_ne (w : World) (b o : Nat) (cs : Array Value) (k : Nat) (h : k ≠ b) : (put w b o cs).heap[k]? = w.heap[k]? := by
  simp [put, Array.getElem?_modify, Ne.symm h]
theorem put_size (w : World) (b o : Nat) (cs : Array Value) : (put w b o cs).heap.size = w.heap.size := by simp [put]
theorem row_put_other (w : World) (b o : Nat) (cs : Array Value) (k i n : Nat) (h : k ≠ b) : row (put w b o cs) k i n = row w k i n := by
  simp [row, put_heap_ne w b o cs k h]
theorem canPut_put_other (w : World) (b o : Nat) (cs : Array Value) (k i n : Nat) (h : k ≠ b) : canPut (put w b o cs) k i n = canPut w k i n := by
  simp [canPut, put_heap_ne w b o cs k h]
theorem cell_put_other (w : World) (b o : Nat) (cs : Array Value) (k i : Nat) (h : k ≠ b) : (put w b o cs).cell? ⟨k, i, none⟩ = w.cell? ⟨k, i, none⟩ := World.cell?_of_block (put_heap_ne w b o cs k h)
theorem frozen_put_other (w : World) (b o : Nat) (cs : Array Value) (k i : Nat) (h : k ≠ b) : (put w b o cs).frozen? ⟨k, i, none⟩ = w.frozen? ⟨k, i, none⟩ := World.frozen?_of_block (put_heap_ne w b o cs k h)

attribute [go_sem] loadRes_some storeRes_true row_alloc_at row_alloc_past canPut_alloc_at canPut_alloc_past row_drew canPut_drew put_drew put_alloc_at put_alloc_past put_size row_put_other canPut_put_other cell_put_other frozen_put_other

/-! which old blocks may have changed -/
structure Only (F : List Nat) (w w' : World) : Prop where
  os : w'.os = w.os
  tape : w'.tape = w.tape
  output : w'.output = w.output
  size : w.heap.size ≤ w'.heap.size
  block : ∀ k, k < w.heap.size → k ∉ F → w'.heap[k]? = w.heap[k]?

theorem Only.refl (F : List Nat) (w : World) : Only F w w := ⟨rfl, rfl, rfl, Nat.le_refl _, fun _ _ _ => rfl⟩
theorem Only.trans {F G H : List Nat} {a b c : World} (h : Only F a b) (k : Only G b c) (hF : ∀ x ∈ F, x ∈ H) (hG : ∀ x ∈ G, x < a.heap.size → x ∈ H) : Only H a c :=
  ⟨k.os.trans h.os, k.tape.trans h.tape, k.output.trans h.output, Nat.le_trans h.size k.size, fun i hi hn =>
    (k.block i (Nat.lt_of_lt_of_le hi h.size) (fun hg => hn (hG i hg hi))).trans (h.block i hi (fun hf => hn (hF i hf)))⟩
theorem Only.drew {F : List Nat} {a w : World} (h : Only F a w) : Only F a w.drew := ⟨h.os, h.tape, h.output, h.size, h.block⟩
theorem Only.drewN {F : List Nat} {a w : World} (h : Only F a w) (n : Nat) : Only F a (w.drewN n) := ⟨h.os, h.tape, h.output, h.size, h.block⟩
theorem Only.alloc {F : List Nat} {a w : World} (h : Only F a w) (o : Obj) : Only F a (w.alloc o) :=
  ⟨h.os, h.tape, h.output, Nat.le_trans h.size (by simp), fun i hi hn => (Below.heap_alloc w o i (Nat.lt_of_lt_of_le hi h.size)).trans (h.block i hi hn)⟩
theorem Only.setCell {F : List Nat} {a w : World} (h : Only F a w) {p : Addr} (hp : p.block ∈ F ∨ a.heap.size ≤ p.block) (u : Value) : Only F a (w.setCell p u) :=
  ⟨h.os, h.tape, h.output, by simpa [World.setCell] using h.size, fun i hi hn => (Below.heap_setCell w p u i (by
    rintro rfl
    rcases hp with hp | hp
    · exact hn hp
    · omega)).trans (h.block i hi hn)⟩
theorem Only.put {F : List Nat} {a w : World} (h : Only F a w) {b : Nat} (hp : b ∈ F ∨ a.heap.size ≤ b) (o : Nat) (cs : Array Value) : Only F a (put w b o cs) :=
  ⟨h.os, h.tape, h.output, by rw [put_size]; exact h.size, fun i hi hn => (put_heap_ne w b o cs i (by
    rintro rfl
    rcases hp with hp | hp
    · exact hn hp
    · omega)).trans (h.block i hi hn)⟩
theorem Only.grown {F : List Nat} {a w w' : World} {r : Option Nat} (h : Only F a w) (hg : w.grownBy w' r) (hr : ∀ k, r = some k → k ∈ F ∨ a.heap.size ≤ k) : Only F a w' :=
  ⟨hg.os.trans h.os, hg.tape.trans h.tape, hg.output.trans h.output, Nat.le_trans h.size hg.size, fun k hk hn =>
    (hg.block k (Nat.lt_of_lt_of_le hk h.size) (fun e => by rcases hr k e.symm with h1 | h1; exact hn h1; omega)).trans (h.block k hk hn)⟩
theorem Only.mono {F G : List Nat} {a w : World} (h : Only F a w) (hs : ∀ x ∈ F, x ∈ G) : Only G a w := ⟨h.os, h.tape, h.output, h.size, fun k hk hn => h.block k hk (fun hf => hn (hs k hf))⟩
theorem Only.below {a w : World} (h : Only [] a w) : Below a.heap.size a w := ⟨h.os, h.tape, h.output, h.size, fun k hk => h.block k hk (by simp)⟩

/-! a block that is known whole -/
def Blk (w : World) (g : Nat) (t : TypeId) (cs : Array Value) : Prop := w.heap[g]? = some (.cells cs t (0, 0))
section
variable {w w' : World} {g : Nat} {t : TypeId} {cs : Array Value}
theorem Blk.lt (h : Blk w g t cs) : g < w.heap.size := by
  rcases Nat.lt_or_ge g w.heap.size with hlt | hge
  · exact hlt
  · unfold Blk at h; rw [Array.getElem?_eq_none hge] at h; cases h
theorem Blk.cell (h : Blk w g t cs) (i : Nat) : w.cell? ⟨g, i, none⟩ = cs[i]? := cell_of_row w g i cs t (0, 0) h
theorem Blk.frozen (h : Blk w g t cs) (i : Nat) : w.frozen? ⟨g, i, none⟩ = false := by
  unfold Blk at h
  simp [World.frozen?, h]
theorem Blk.row (h : Blk w g t cs) (o n : Nat) (hle : o + n ≤ cs.size) : row w g o n = some (cs.extract o (o + n)) := by
  unfold Blk at h
  simp [Ytkempjcdapfopaa.row, h, hle]
theorem Blk.canPut (h : Blk w g t cs) (o n : Nat) (hle : o + n ≤ cs.size) : canPut w g o n = true := by
  unfold Blk at h
  simp [Ytkempjcdapfopaa.canPut, h, hle]
theorem Blk.new (w : World) (t : TypeId) (cs : Array Value) : Blk (w.alloc (.cells cs t)) w.heap.size t cs := heap_alloc_new w _
theorem Blk.drew (h : Blk w g t cs) : Blk w.drew g t cs := h
theorem Blk.drewN (h : Blk w g t cs) (n : Nat) : Blk (w.drewN n) g t cs := h
theorem Blk.alloc (h : Blk w g t cs) (o : Obj) : Blk (w.alloc o) g t cs := (Below.heap_alloc w o g h.lt).trans h
theorem Blk.set_ (h : Blk w g t cs) (i : Nat) (u : Value) : Blk (w.setCell ⟨g, i, none⟩ u) g t (cs.setIfInBounds i u) := by
  unfold Blk at h ⊢
  simp [World.setCell, Array.getElem?_modify, h]
theorem Blk.far (h : Blk w g t cs) {p : Addr} (hp : g ≠ p.block) (u : Value) : Blk (w.setCell p u) g t cs := (Below.heap_setCell w p u g hp).trans h
theorem Blk.put_ (h : Blk w g t cs) (o : Nat) (vs : Array Value) : Blk (put w g o vs) g t (splice cs o vs) := by
  unfold Blk at h ⊢
  simp [put, Array.getElem?_modify, h]
theorem Blk.putFar (h : Blk w g t cs) {b : Nat} (hb : g ≠ b) (o : Nat) (vs : Array Value) : Blk (put w b o vs) g t cs := (put_heap_ne w b o vs g hb).trans h
theorem Blk.only {F : List Nat} (h : Blk w g t cs) (ho : Only F w w') (hg : g ∉ F) : Blk w' g t cs := (ho.block g h.lt hg).trans h
end
end Go.Proofs.Ytkempjcdapfopaa
