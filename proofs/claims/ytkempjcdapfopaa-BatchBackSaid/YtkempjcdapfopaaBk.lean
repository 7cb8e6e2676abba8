/- Blocks of 64 bytes as values: their cells, and the rules by which the walk loads, stores, builds and compares them. Conditions: none beyond those of each lemma. -/
import Derived.Test.YtkempjcdapfopaaBase
namespace Go.Proofs.Ytkempjcdapfopaa
open Go.RowKit

/-- 64 bytes -/
structure Bk where
  l : List Int
  len : l.length = 64
  byt : ∀ z ∈ l, 0 ≤ z ∧ z < 256
  deriving DecidableEq

theorem Bk.ext' {a b : Bk} (h : a.l = b.l) : a = b := by cases a; cases b; cases h; rfl

def Bk.cells (b : Bk) : Array Value := (b.l.map (Value.int .u8)).toArray
def Bk.zero : Bk := ⟨List.replicate 64 0, by simp, by intro z hz; have := List.eq_of_mem_replicate hz; omega⟩
def hcells (b : Bk) (t : Bool) : Array Value := b.cells.push (.bool t)
def wcells (at_ : Int) (b : Bk) : Array Value := #[.int .i64 at_] ++ b.cells

theorem Bk.size_cells (b : Bk) : b.cells.size = 64 := by simp [Bk.cells, b.len]
theorem size_hcells (b : Bk) (t : Bool) : (hcells b t).size = 65 := by simp [hcells, Bk.size_cells]
theorem size_wcells (a : Int) (b : Bk) : (wcells a b).size = 65 := by simp [wcells, Bk.size_cells]
theorem Bk.one_cells (b : Bk) : b.cells.all (·.oneCell') = true := by
  simp [Bk.cells, Array.all_eq_true]
  intro i hi
  rfl
theorem one_hcells (b : Bk) (t : Bool) : (hcells b t).all (·.oneCell') = true := by
  have := b.one_cells
  unfold hcells
  rw [Array.all_push, this]; rfl
theorem one_wcells (a : Int) (b : Bk) : (wcells a b).all (·.oneCell') = true := by
  have := b.one_cells
  unfold wcells
  rw [Array.all_append, this]; simp [Value.oneCell']
def ones (cs : Array Value) : Bool := cs.all (·.oneCell')
theorem ones_cells (b : Bk) : ones b.cells = true := b.one_cells
theorem ones_hcells (b : Bk) (t : Bool) : ones (hcells b t) = true := one_hcells b t
theorem ones_wcells (a : Int) (b : Bk) : ones (wcells a b) = true := one_wcells a b
theorem wcells_0 (a : Int) (b : Bk) : (wcells a b)[0]? = some (.int .i64 a) := by
  unfold wcells
  rw [Array.getElem?_append_left (by simp)]; rfl
theorem wcells_get0 (a : Int) (b : Bk) (h : 0 < (wcells a b).size) : (wcells a b)[0]'h = .int .i64 a := by
  have := wcells_0 a b
  rw [Array.getElem?_eq_getElem h] at this
  injection this
theorem wcells_b (a : Int) (b : Bk) : (wcells a b).extract 1 65 = b.cells := by
  unfold wcells
  apply Array.ext'
  simp [Bk.cells]
  exact List.take_of_length_le (by simp [b.len])
theorem hcells_t (b : Bk) (t : Bool) : (hcells b t)[64]? = some (.bool t) := by
  unfold hcells
  rw [Array.getElem?_push, if_pos (by rw [b.size_cells])]
theorem hcells_b (b : Bk) (t : Bool) : (hcells b t).extract 0 64 = b.cells := by
  unfold hcells
  apply Array.ext'
  have := b.len
  simp [Bk.cells, List.take_append, this]
theorem Bk.ext_cells (b : Bk) : b.cells.extract 0 64 = b.cells := by
  apply Array.ext'
  simp [Bk.cells]
  exact List.take_of_length_le (by simp [b.len])
theorem Bk.cells_inj {a b : Bk} (h : a.cells = b.cells) : a = b := by
  apply Bk.ext'
  unfold Bk.cells at h
  have h := congrArg Array.toList h
  simp only at h
  exact (List.map_inj_right (fun x y e => by injection e)).1 h

theorem ext_wcells (a : Int) (b : Bk) : (wcells a b).extract 0 65 = wcells a b := by
  apply Array.ext'
  simp only [Array.toList_extract, List.extract_eq_take_drop, List.drop_zero]
  exact List.take_of_length_le (by simp [size_wcells])
theorem ext_hcells (b : Bk) (t : Bool) : (hcells b t).extract 0 65 = hcells b t := by
  apply Array.ext'
  simp only [Array.toList_extract, List.extract_eq_take_drop, List.drop_zero]
  exact List.take_of_length_le (by simp [size_hcells])
theorem hcells_get64 (b : Bk) (t : Bool) (h : 64 < (hcells b t).size) : (hcells b t)[64]'h = .bool t := by
  have := hcells_t b t
  rw [Array.getElem?_eq_getElem h] at this
  injection this
attribute [go_sem, simp] wcells_get0 hcells_get64 ext_wcells ext_hcells Bk.size_cells size_hcells size_wcells ones_cells ones_hcells ones_wcells wcells_0 wcells_b hcells_t hcells_b Bk.ext_cells

theorem row_alloc_sub (w : World) (c : Array Value) (t : TypeId) (n o k : Nat) (hn : n = w.heap.size) : row (w.alloc (.cells c t)) n o k = if o + k ≤ c.size then some (c.extract o (o + k)) else none := by
  subst hn
  have : (w.alloc (.cells c t)).heap[w.heap.size]? = some (.cells c t (0, 0)) := heap_alloc_new w _
  unfold row
  rw [this]
attribute [go_sem] row_alloc_sub

/-! the types -/
section
theorem sz45 : (Try.prog.info? 45).map (·.size) = some 64 := by kernel_rfl
theorem sz37 : (Try.prog.info? 37).map (·.size) = some 64 := by kernel_rfl
theorem sz140 : (Try.prog.info? 140).map (·.size) = some 65 := by kernel_rfl
theorem sz104 : (Try.prog.info? 104).map (·.size) = some 65 := by kernel_rfl
theorem sz110 : (Try.prog.info? 110).map (·.size) = some 65 := by kernel_rfl
theorem sz106 : (Try.prog.info? 106).map (·.size) = some 65 := by kernel_rfl
end
theorem load45 (w : World) (b o : Nat) : (Instr.loadAt 45 (.pointer (some ⟨b, o, none⟩))).run Try.prog w = loadRes Try.prog 45 b o w (row w b o 64) := run_loadAt_row 45 64 _ Try.underlying45 rfl sz45 w b o
theorem load37 (w : World) (b o : Nat) : (Instr.loadAt 37 (.pointer (some ⟨b, o, none⟩))).run Try.prog w = loadRes Try.prog 37 b o w (row w b o 64) := run_loadAt_row 37 64 _ Try.underlying37 rfl sz37 w b o
theorem load140 (w : World) (b o : Nat) : (Instr.loadAt 140 (.pointer (some ⟨b, o, none⟩))).run Try.prog w = loadRes Try.prog 140 b o w (row w b o 65) := run_loadAt_row 140 65 _ Try.underlying140 rfl sz140 w b o
theorem load104 (w : World) (b o : Nat) : (Instr.loadAt 104 (.pointer (some ⟨b, o, none⟩))).run Try.prog w = loadRes Try.prog 104 b o w (row w b o 65) := run_loadAt_row 104 65 _ Try.underlying104 rfl sz104 w b o
theorem load110 (w : World) (b o : Nat) : (Instr.loadAt 110 (.pointer (some ⟨b, o, none⟩))).run Try.prog w = loadRes Try.prog 110 b o w (row w b o 65) := run_loadAt_row 110 65 _ Try.underlying110 rfl sz110 w b o
theorem load106 (w : World) (b o : Nat) : (Instr.loadAt 106 (.pointer (some ⟨b, o, none⟩))).run Try.prog w = loadRes Try.prog 106 b o w (row w b o 65) := run_loadAt_row 106 65 _ Try.underlying106 rfl sz106 w b o
theorem store45 (w : World) (b o : Nat) (cs : Array Value) (hs : cs.size = 64) (h1 : cs.all (·.oneCell') = true) : (Instr.storeAt 45 (.pointer (some ⟨b, o, none⟩)) (.agg cs)).run Try.prog w = storeRes Try.prog 45 b o cs w (canPut w b o 64) := run_storeAt_row 45 64 sz45 w b o cs hs h1
theorem store37 (w : World) (b o : Nat) (cs : Array Value) (hs : cs.size = 64) (h1 : cs.all (·.oneCell') = true) : (Instr.storeAt 37 (.pointer (some ⟨b, o, none⟩)) (.agg cs)).run Try.prog w = storeRes Try.prog 37 b o cs w (canPut w b o 64) := run_storeAt_row 37 64 sz37 w b o cs hs h1
theorem store140 (w : World) (b o : Nat) (cs : Array Value) (hs : cs.size = 65) (h1 : cs.all (·.oneCell') = true) : (Instr.storeAt 140 (.pointer (some ⟨b, o, none⟩)) (.agg cs)).run Try.prog w = storeRes Try.prog 140 b o cs w (canPut w b o 65) := run_storeAt_row 140 65 sz140 w b o cs hs h1
theorem store104 (w : World) (b o : Nat) (cs : Array Value) (hs : cs.size = 65) (h1 : cs.all (·.oneCell') = true) : (Instr.storeAt 104 (.pointer (some ⟨b, o, none⟩)) (.agg cs)).run Try.prog w = storeRes Try.prog 104 b o cs w (canPut w b o 65) := run_storeAt_row 104 65 sz104 w b o cs hs h1
theorem store110 (w : World) (b o : Nat) (cs : Array Value) (hs : cs.size = 65) (h1 : cs.all (·.oneCell') = true) : (Instr.storeAt 110 (.pointer (some ⟨b, o, none⟩)) (.agg cs)).run Try.prog w = storeRes Try.prog 110 b o cs w (canPut w b o 65) := run_storeAt_row 110 65 sz110 w b o cs hs h1
theorem store106 (w : World) (b o : Nat) (cs : Array Value) (hs : cs.size = 65) (h1 : cs.all (·.oneCell') = true) : (Instr.storeAt 106 (.pointer (some ⟨b, o, none⟩)) (.agg cs)).run Try.prog w = storeRes Try.prog 106 b o cs w (canPut w b o 65) := run_storeAt_row 106 65 sz106 w b o cs hs h1

/-! zero values -/
theorem zero45 (w : World) : (zeroValue 45).run Try.prog w = .ok (.agg Bk.zero.cells) w := by kernel_rfl
theorem zero37 (w : World) : (zeroValue 37).run Try.prog w = .ok (.agg Bk.zero.cells) w := by kernel_rfl
theorem zero140 (w : World) : (zeroValue 140).run Try.prog w = .ok (.agg (wcells 0 Bk.zero)) w := by kernel_rfl
theorem zero104 (w : World) : (zeroValue 104).run Try.prog w = .ok (.agg (wcells 0 Bk.zero)) w := by kernel_rfl
theorem zero110 (w : World) : (zeroValue 110).run Try.prog w = .ok (.agg (hcells Bk.zero false)) w := by kernel_rfl
theorem zero106 (w : World) : (zeroValue 106).run Try.prog w = .ok (.agg (hcells Bk.zero false)) w := by kernel_rfl

theorem run_alloc_of {P : Program} {ty : TypeId} {cs : Array Value} (h : ∀ w, (zeroValue ty).run P w = .ok (.agg cs) w) (w : World) :
    (Instr.alloc ty true (.tuple #[])).run P w = .ok (.pointer (some ⟨w.heap.size, 0, none⟩)) (w.alloc (.cells cs ty)) := by
  unfold Instr.alloc
  rw [Sem.run_bind, h w]
  rfl
theorem alloc45 (w : World) : (Instr.alloc 45 true (.tuple #[])).run Try.prog w = .ok (.pointer (some ⟨w.heap.size, 0, none⟩)) (w.alloc (.cells Bk.zero.cells 45)) := run_alloc_of zero45 w
theorem alloc37 (w : World) : (Instr.alloc 37 true (.tuple #[])).run Try.prog w = .ok (.pointer (some ⟨w.heap.size, 0, none⟩)) (w.alloc (.cells Bk.zero.cells 37)) := run_alloc_of zero37 w
theorem alloc140 (w : World) : (Instr.alloc 140 true (.tuple #[])).run Try.prog w = .ok (.pointer (some ⟨w.heap.size, 0, none⟩)) (w.alloc (.cells (wcells 0 Bk.zero) 140)) := run_alloc_of zero140 w
theorem alloc104 (w : World) : (Instr.alloc 104 true (.tuple #[])).run Try.prog w = .ok (.pointer (some ⟨w.heap.size, 0, none⟩)) (w.alloc (.cells (wcells 0 Bk.zero) 104)) := run_alloc_of zero104 w

theorem build45 (w : World) : (Instr.build 45 #[]).run Try.prog w = .ok (.agg Bk.zero.cells) w := by kernel_rfl
theorem build37 (w : World) : (Instr.build 37 #[]).run Try.prog w = .ok (.agg Bk.zero.cells) w := by kernel_rfl

/-- a part laid over cells -/
theorem fill_one (place : Nat → Option (Nat × Nat)) (cells : Array Value) (i off : Nat) (v : Value) (rest : List (Nat × Value)) (hp : place i = some (off, v.cells.size)) (hle : off + v.cells.size ≤ cells.size) :
    Instr.fill place cells ((i, v) :: rest) = Instr.fill place (splice cells off v.cells) rest := by
  have key : ∀ (vs : List Value) (o : Nat) (c : Array Value), o + vs.length ≤ c.size → (vs.zipIdx.foldl (fun cs (x : Value × Nat) => cs.setIfInBounds (o + x.2) x.1) c) = splice c o vs.toArray := by
    intro vs
    have gen : ∀ (vs : List Value) (k o : Nat) (c : Array Value), o + k + vs.length ≤ c.size → ((vs.zipIdx k).foldl (fun cs (x : Value × Nat) => cs.setIfInBounds (o + x.2) x.1) c) = splice c (o + k) vs.toArray := by
      intro vs
      induction vs with
      | nil => intro k o c hle; simp [splice]
      | cons v vs ih =>
        intro k o c hle
        simp only [List.length_cons] at hle
        rw [List.zipIdx_cons, List.foldl_cons]
        rw [ih (k + 1) o _ (by simp; omega)]
        apply Array.ext'
        apply List.ext_getElem?
        intro j
        simp only [splice, Array.toList_setIfInBounds, List.size_toArray, List.getElem?_append, List.length_take, List.length_append, List.length_set, Array.length_toList, List.getElem?_take, List.getElem?_drop, List.getElem?_set, List.getElem?_cons, List.length_cons]
        grind
    intro o c hle
    have := gen vs 0 o c (by omega)
    simpa using this
  have h2 := key v.cells.toList off cells (by simpa using hle)
  conv => lhs; unfold Instr.fill
  rw [hp]
  simp only [ne_eq, not_true_eq_false, decide_false, Bool.false_or, decide_eq_true_eq]
  rw [if_neg (by omega)]
  refine congrArg (fun c => Instr.fill place c rest) ?_
  rw [← Array.foldl_toList, Array.toList_zipIdx]
  simpa using h2

theorem splice_all {c cs : Array Value} (h : c.size = cs.size) : splice c 0 cs = cs := by
  have hd : c.toList.drop cs.size = [] := List.drop_eq_nil_of_le (by simp; omega)
  simp [splice, hd]

theorem built140 (parts : List (Nat × Value)) : Try.prog.built 140 parts = Instr.fill (fun i => #[(0, 1), (1, 64)][i]?) (wcells 0 Bk.zero) parts := by kernel_rfl
theorem built104 (parts : List (Nat × Value)) : Try.prog.built 104 parts = Instr.fill (fun i => #[(0, 1), (1, 64)][i]?) (wcells 0 Bk.zero) parts := by kernel_rfl
theorem built110 (parts : List (Nat × Value)) : Try.prog.built 110 parts = Instr.fill (fun i => #[(0, 64), (64, 1)][i]?) (hcells Bk.zero false) parts := by kernel_rfl
theorem built106 (parts : List (Nat × Value)) : Try.prog.built 106 parts = Instr.fill (fun i => #[(0, 64), (64, 1)][i]?) (hcells Bk.zero false) parts := by kernel_rfl

theorem splice_w (a : Int) (b : Bk) : splice (splice (wcells 0 Bk.zero) 0 #[.int .i64 a]) 1 b.cells = wcells a b := by
  have h1 : splice (wcells 0 Bk.zero) 0 #[.int .i64 a] = wcells a Bk.zero := by
    unfold splice wcells; simp
  rw [h1]
  apply Array.ext'
  have hd : (wcells a Bk.zero).toList.drop (1 + b.cells.size) = [] := List.drop_eq_nil_of_le (by simp)
  have ht : (wcells a Bk.zero).toList.take 1 = [.int .i64 a] := by unfold wcells; simp
  unfold splice
  rw [hd, ht]
  simp [wcells]
theorem splice_h (b : Bk) (t : Bool) : splice (hcells Bk.zero t) 0 b.cells = hcells b t := by
  apply Array.ext'
  have hd : (hcells Bk.zero t).toList.drop (0 + b.cells.size) = [.bool t] := by
    unfold hcells
    rw [Array.toList_push, List.drop_append_of_le_length (by simp), List.drop_eq_nil_of_le (by simp)]
    rfl
  unfold splice
  rw [hd]
  simp [hcells]
theorem splice_t (t u : Bool) (b : Bk) : splice (hcells b t) 64 #[.bool u] = hcells b u := by
  apply Array.ext'
  have hd : (hcells b t).toList.drop (64 + 1) = [] := List.drop_eq_nil_of_le (by simp)
  have ht : (hcells b t).toList.take 64 = b.cells.toList := by
    unfold hcells
    rw [Array.toList_push, List.take_append_of_le_length (by simp), List.take_of_length_le (by simp)]
  unfold splice
  simp only [List.size_toArray, List.length_cons, List.length_nil, Nat.zero_add]
  rw [hd, ht]
  simp [hcells]

theorem fill_w (a : Int) (b : Bk) : Instr.fill (fun i => #[(0, 1), (1, 64)][i]?) (wcells 0 Bk.zero) [(0, .int .i64 a), (1, .agg b.cells)] = some (wcells a b) := by
  rw [fill_one _ _ 0 0 _ _ rfl (by simp [Value.cells]), fill_one _ _ 1 1 _ _ (by simp [Value.cells]) (by
    simp only [Value.cells]
    rw [show splice (wcells 0 Bk.zero) 0 #[.int .i64 a] = wcells a Bk.zero from by unfold splice wcells; simp]
    simp)]
  simp only [Value.cells, splice_w]
  rfl
theorem fill_hb (b : Bk) : Instr.fill (fun i => #[(0, 64), (64, 1)][i]?) (hcells Bk.zero false) [(0, .agg b.cells)] = some (hcells b false) := by
  rw [fill_one _ _ 0 0 _ _ (by simp [Value.cells]) (by simp [Value.cells])]
  simp only [Value.cells, splice_h]
  rfl
theorem fill_ht : Instr.fill (fun i => #[(0, 64), (64, 1)][i]?) (hcells Bk.zero false) [(1, .bool true)] = some (hcells Bk.zero true) := by
  rw [fill_one _ _ 1 64 _ _ (by simp [Value.cells]) (by simp [Value.cells])]
  simp only [Value.cells, splice_t]
  rfl
theorem build140 (a : Int) (b : Bk) (w : World) : (Instr.build 140 #[(0, .int .i64 a), (1, .agg b.cells)]).run Try.prog w = .ok (.agg (wcells a b)) w :=
  run_build w 140 _ _ ((built140 _).trans (fill_w a b))
theorem build104 (a : Int) (b : Bk) (w : World) : (Instr.build 104 #[(0, .int .i64 a), (1, .agg b.cells)]).run Try.prog w = .ok (.agg (wcells a b)) w :=
  run_build w 104 _ _ ((built104 _).trans (fill_w a b))
theorem build110b (b : Bk) (w : World) : (Instr.build 110 #[(0, .agg b.cells)]).run Try.prog w = .ok (.agg (hcells b false)) w :=
  run_build w 110 _ _ ((built110 _).trans (fill_hb b))
theorem build106b (b : Bk) (w : World) : (Instr.build 106 #[(0, .agg b.cells)]).run Try.prog w = .ok (.agg (hcells b false)) w :=
  run_build w 106 _ _ ((built106 _).trans (fill_hb b))
theorem build110t (w : World) : (Instr.build 110 #[(1, .bool true)]).run Try.prog w = .ok (.agg (hcells Bk.zero true)) w :=
  run_build w 110 _ _ ((built110 _).trans fill_ht)
theorem build106t (w : World) : (Instr.build 106 #[(1, .bool true)]).run Try.prog w = .ok (.agg (hcells Bk.zero true)) w :=
  run_build w 106 _ _ ((built106 _).trans fill_ht)

/-! a slice of one element, made in a new block -/
theorem run_buildSlice1 {P : Program} {t e : TypeId} {n b : Nat} {z v : Value} (hu : P.underlying t = some (.slice e)) (hi : (P.info? e).map (fun i => (i.zero, i.size, i.bytes)) = some (some z, n, b)) (hn : 0 < n) (hn2 : n ≤ 16777216)
    (hs : v.cells.size = n) (w : World) : (Instr.buildSlice t 1 #[(0, v)]).run P w = .ok (.slice (some ⟨w.heap.size, 0, none⟩) 1 1) (w.alloc (.cells v.cells e)) := by
  obtain ⟨ie, hie, hz, hsz, _⟩ := info_parts hi
  have hf : Instr.fill (fun i => some (i * n, n)) ((Array.range n).map (z.cells[· % z.cells.size]!)) [(0, v)] = some v.cells := by
    rw [fill_one _ _ 0 0 _ _ (by simp [hs]) (by simp [hs]), splice_all (by simp [hs])]
    rfl
  have h1 : ¬ n > 16777216 := by omega
  have h2 : ¬ n = 0 := by omega
  simp [Instr.buildSlice, run_underlying hu, sizeOf, typeInfo, zeroValue, hie, hz, hsz, h1, h2, hf, newRow]
theorem info140 : (Try.prog.info? 140).map (fun i => (i.zero, i.size, i.bytes)) = some (some (.agg (wcells 0 Bk.zero)), 65, 72) := by kernel_rfl
theorem info104 : (Try.prog.info? 104).map (fun i => (i.zero, i.size, i.bytes)) = some (some (.agg (wcells 0 Bk.zero)), 65, 72) := by kernel_rfl
theorem info110 : (Try.prog.info? 110).map (fun i => (i.zero, i.size, i.bytes)) = some (some (.agg (hcells Bk.zero false)), 65, 65) := by kernel_rfl
theorem info106 : (Try.prog.info? 106).map (fun i => (i.zero, i.size, i.bytes)) = some (some (.agg (hcells Bk.zero false)), 65, 65) := by kernel_rfl
theorem info5 : (Try.prog.info? 5).map (fun i => (i.zero, i.size, i.bytes)) = some (some (.int .u8 0), 1, 1) := by kernel_rfl
theorem buildSlice98 (cs : Array Value) (hs : cs.size = 65) (w : World) : (Instr.buildSlice 98 1 #[(0, .agg cs)]).run Try.prog w = .ok (.slice (some ⟨w.heap.size, 0, none⟩) 1 1) (w.alloc (.cells cs 140)) :=
  run_buildSlice1 (v := .agg cs) Try.underlying98 info140 (by omega) (by omega) hs w
theorem buildSlice42 (cs : Array Value) (hs : cs.size = 65) (w : World) : (Instr.buildSlice 42 1 #[(0, .agg cs)]).run Try.prog w = .ok (.slice (some ⟨w.heap.size, 0, none⟩) 1 1) (w.alloc (.cells cs 104)) :=
  run_buildSlice1 (v := .agg cs) Try.underlying42 info104 (by omega) (by omega) hs w
theorem buildSlice32 (k : IntKind) (n : Int) (w : World) : (Instr.buildSlice 32 1 #[(0, .int k n)]).run Try.prog w = .ok (.slice (some ⟨w.heap.size, 0, none⟩) 1 1) (w.alloc (.cells #[.int k n] 5)) :=
  run_buildSlice1 Try.underlying32 info5 (by omega) (by omega) rfl w

/-! the walk's simp opens an instruction before its operands are known: a name of our own stands in its place, whatever the operands -/
def loadAtR (ty : TypeId) (x : Value) : Sem Value := Instr.loadAt ty x
def storeAtR (ty : TypeId) (x v : Value) : Sem Unit := Instr.storeAt ty x v
def allocR (ty : TypeId) : Sem Value := Instr.alloc ty true (.tuple #[])
def buildR (ty : TypeId) (parts : Array (Nat × Value)) : Sem Value := Instr.build ty parts
def buildSliceR (ty : TypeId) (n : Nat) (parts : Array (Nat × Value)) : Sem Value := Instr.buildSlice ty n parts
theorem at_load45 (x : Value) : Instr.loadAt 45 x = loadAtR 45 x := rfl
theorem run_load45 (w : World) (b o : Nat) : (loadAtR 45 (.pointer (some ⟨b, o, none⟩))).run Try.prog w = loadRes Try.prog 45 b o w (row w b o 64) := load45 w b o
theorem at_store45 (x v : Value) : Instr.storeAt 45 x v = storeAtR 45 x v := rfl
theorem run_store45 (w : World) (b o : Nat) (cs : Array Value) (hs : cs.size = 64) (h1 : ones cs = true) : (storeAtR 45 (.pointer (some ⟨b, o, none⟩)) (.agg cs)).run Try.prog w = storeRes Try.prog 45 b o cs w (canPut w b o 64) := store45 w b o cs hs h1
theorem at_load37 (x : Value) : Instr.loadAt 37 x = loadAtR 37 x := rfl
theorem run_load37 (w : World) (b o : Nat) : (loadAtR 37 (.pointer (some ⟨b, o, none⟩))).run Try.prog w = loadRes Try.prog 37 b o w (row w b o 64) := load37 w b o
theorem at_store37 (x v : Value) : Instr.storeAt 37 x v = storeAtR 37 x v := rfl
theorem run_store37 (w : World) (b o : Nat) (cs : Array Value) (hs : cs.size = 64) (h1 : ones cs = true) : (storeAtR 37 (.pointer (some ⟨b, o, none⟩)) (.agg cs)).run Try.prog w = storeRes Try.prog 37 b o cs w (canPut w b o 64) := store37 w b o cs hs h1
theorem at_load140 (x : Value) : Instr.loadAt 140 x = loadAtR 140 x := rfl
theorem run_load140 (w : World) (b o : Nat) : (loadAtR 140 (.pointer (some ⟨b, o, none⟩))).run Try.prog w = loadRes Try.prog 140 b o w (row w b o 65) := load140 w b o
theorem at_store140 (x v : Value) : Instr.storeAt 140 x v = storeAtR 140 x v := rfl
theorem run_store140 (w : World) (b o : Nat) (cs : Array Value) (hs : cs.size = 65) (h1 : ones cs = true) : (storeAtR 140 (.pointer (some ⟨b, o, none⟩)) (.agg cs)).run Try.prog w = storeRes Try.prog 140 b o cs w (canPut w b o 65) := store140 w b o cs hs h1
theorem at_load104 (x : Value) : Instr.loadAt 104 x = loadAtR 104 x := rfl
theorem run_load104 (w : World) (b o : Nat) : (loadAtR 104 (.pointer (some ⟨b, o, none⟩))).run Try.prog w = loadRes Try.prog 104 b o w (row w b o 65) := load104 w b o
theorem at_store104 (x v : Value) : Instr.storeAt 104 x v = storeAtR 104 x v := rfl
theorem run_store104 (w : World) (b o : Nat) (cs : Array Value) (hs : cs.size = 65) (h1 : ones cs = true) : (storeAtR 104 (.pointer (some ⟨b, o, none⟩)) (.agg cs)).run Try.prog w = storeRes Try.prog 104 b o cs w (canPut w b o 65) := store104 w b o cs hs h1
theorem at_load110 (x : Value) : Instr.loadAt 110 x = loadAtR 110 x := rfl
theorem run_load110 (w : World) (b o : Nat) : (loadAtR 110 (.pointer (some ⟨b, o, none⟩))).run Try.prog w = loadRes Try.prog 110 b o w (row w b o 65) := load110 w b o
theorem at_store110 (x v : Value) : Instr.storeAt 110 x v = storeAtR 110 x v := rfl
theorem run_store110 (w : World) (b o : Nat) (cs : Array Value) (hs : cs.size = 65) (h1 : ones cs = true) : (storeAtR 110 (.pointer (some ⟨b, o, none⟩)) (.agg cs)).run Try.prog w = storeRes Try.prog 110 b o cs w (canPut w b o 65) := store110 w b o cs hs h1
theorem at_load106 (x : Value) : Instr.loadAt 106 x = loadAtR 106 x := rfl
theorem run_load106 (w : World) (b o : Nat) : (loadAtR 106 (.pointer (some ⟨b, o, none⟩))).run Try.prog w = loadRes Try.prog 106 b o w (row w b o 65) := load106 w b o
theorem at_store106 (x v : Value) : Instr.storeAt 106 x v = storeAtR 106 x v := rfl
theorem run_store106 (w : World) (b o : Nat) (cs : Array Value) (hs : cs.size = 65) (h1 : ones cs = true) : (storeAtR 106 (.pointer (some ⟨b, o, none⟩)) (.agg cs)).run Try.prog w = storeRes Try.prog 106 b o cs w (canPut w b o 65) := store106 w b o cs hs h1
theorem at_alloc45 : Instr.alloc 45 true (.tuple #[]) = allocR 45 := rfl
theorem run_alloc45 (w : World) : (allocR 45).run Try.prog w = .ok (.pointer (some ⟨w.heap.size, 0, none⟩)) (w.alloc (.cells Bk.zero.cells 45)) := alloc45 w
theorem at_alloc37 : Instr.alloc 37 true (.tuple #[]) = allocR 37 := rfl
theorem run_alloc37 (w : World) : (allocR 37).run Try.prog w = .ok (.pointer (some ⟨w.heap.size, 0, none⟩)) (w.alloc (.cells Bk.zero.cells 37)) := alloc37 w
theorem at_alloc140 : Instr.alloc 140 true (.tuple #[]) = allocR 140 := rfl
theorem run_alloc140 (w : World) : (allocR 140).run Try.prog w = .ok (.pointer (some ⟨w.heap.size, 0, none⟩)) (w.alloc (.cells (wcells 0 Bk.zero) 140)) := alloc140 w
theorem at_alloc104 : Instr.alloc 104 true (.tuple #[]) = allocR 104 := rfl
theorem run_alloc104 (w : World) : (allocR 104).run Try.prog w = .ok (.pointer (some ⟨w.heap.size, 0, none⟩)) (w.alloc (.cells (wcells 0 Bk.zero) 104)) := alloc104 w
theorem at_build45 (ps : Array (Nat × Value)) : Instr.build 45 ps = buildR 45 ps := rfl
theorem at_build37 (ps : Array (Nat × Value)) : Instr.build 37 ps = buildR 37 ps := rfl
theorem at_build140 (ps : Array (Nat × Value)) : Instr.build 140 ps = buildR 140 ps := rfl
theorem at_build104 (ps : Array (Nat × Value)) : Instr.build 104 ps = buildR 104 ps := rfl
theorem at_build110 (ps : Array (Nat × Value)) : Instr.build 110 ps = buildR 110 ps := rfl
theorem at_build106 (ps : Array (Nat × Value)) : Instr.build 106 ps = buildR 106 ps := rfl
theorem at_buildSlice98 (n : Nat) (ps : Array (Nat × Value)) : Instr.buildSlice 98 n ps = buildSliceR 98 n ps := rfl
theorem at_buildSlice42 (n : Nat) (ps : Array (Nat × Value)) : Instr.buildSlice 42 n ps = buildSliceR 42 n ps := rfl
theorem at_buildSlice32 (n : Nat) (ps : Array (Nat × Value)) : Instr.buildSlice 32 n ps = buildSliceR 32 n ps := rfl
theorem run_build45 (w : World) : (buildR 45 #[]).run Try.prog w = .ok (.agg Bk.zero.cells) w := build45 w
theorem run_build37 (w : World) : (buildR 37 #[]).run Try.prog w = .ok (.agg Bk.zero.cells) w := build37 w
theorem run_build140 (a : Int) (b : Bk) (w : World) : (buildR 140 #[(0, .int .i64 a), (1, .agg b.cells)]).run Try.prog w = .ok (.agg (wcells a b)) w := build140 a b w
theorem run_build104 (a : Int) (b : Bk) (w : World) : (buildR 104 #[(0, .int .i64 a), (1, .agg b.cells)]).run Try.prog w = .ok (.agg (wcells a b)) w := build104 a b w
theorem run_build110b (b : Bk) (w : World) : (buildR 110 #[(0, .agg b.cells)]).run Try.prog w = .ok (.agg (hcells b false)) w := build110b b w
theorem run_build106b (b : Bk) (w : World) : (buildR 106 #[(0, .agg b.cells)]).run Try.prog w = .ok (.agg (hcells b false)) w := build106b b w
theorem run_build110t (w : World) : (buildR 110 #[(1, .bool true)]).run Try.prog w = .ok (.agg (hcells Bk.zero true)) w := build110t w
theorem run_build106t (w : World) : (buildR 106 #[(1, .bool true)]).run Try.prog w = .ok (.agg (hcells Bk.zero true)) w := build106t w
theorem run_buildSlice98 (cs : Array Value) (hs : cs.size = 65) (w : World) : (buildSliceR 98 1 #[(0, .agg cs)]).run Try.prog w = .ok (.slice (some ⟨w.heap.size, 0, none⟩) 1 1) (w.alloc (.cells cs 140)) := buildSlice98 cs hs w
theorem run_buildSlice42 (cs : Array Value) (hs : cs.size = 65) (w : World) : (buildSliceR 42 1 #[(0, .agg cs)]).run Try.prog w = .ok (.slice (some ⟨w.heap.size, 0, none⟩) 1 1) (w.alloc (.cells cs 104)) := buildSlice42 cs hs w
theorem run_buildSlice32 (k : IntKind) (n : Int) (w : World) : (buildSliceR 32 1 #[(0, .int k n)]).run Try.prog w = .ok (.slice (some ⟨w.heap.size, 0, none⟩) 1 1) (w.alloc (.cells #[.int k n] 5)) := buildSlice32 k n w
attribute [go_sem ↓] at_load45 at_store45 at_load37 at_store37 at_load140 at_store140 at_load104 at_store104 at_load110 at_store110 at_load106 at_store106 at_alloc45 at_alloc37 at_alloc140 at_alloc104 at_build45 at_build37 at_build140 at_build104 at_build110 at_build106 at_buildSlice98 at_buildSlice42 at_buildSlice32
attribute [go_sem] run_load45 run_store45 run_load37 run_store37 run_load140 run_store140 run_load104 run_store104 run_load110 run_store110 run_load106 run_store106 run_alloc45 run_alloc37 run_alloc140 run_alloc104 run_build45 run_build37 run_build140 run_build104 run_build110b run_build106b run_build110t run_build106t run_buildSlice98 run_buildSlice42 run_buildSlice32

/-! results that lie in a cell -/
theorem results_cell_tmp {fn : Func} {r e : Tmp} {ty n : Nat} (h : fn.results = #[.cell r ty, .tmp e]) (d : TypeDesc) (hu : Try.prog.underlying ty = some d) (hd : d.isRow = true) (hi : (Try.prog.info? ty).map (·.size) = some n)
    (tmps : Array Value) (w : World) (b : Nat) (cs : Array Value) (hr : tmps.getD r undef = .pointer (some ⟨b, 0, none⟩)) (hrow : row w b 0 n = some cs) :
    (results fn tmps).run Try.prog w = .ok (.tuple #[.agg cs, tmps.getD e undef]) w := by
  obtain ⟨hs, hg⟩ := row_cells hrow
  have hl := run_loadVar_mid (P := Try.prog) w b 0 ty cs.toList d hg hu hd (by rw [hi]; simp [hs])
  have hr' : tmps[r]?.getD undef = .pointer (some ⟨b, 0, none⟩) := by simpa using hr
  simp [results, h, hr', asAddr, hl]
theorem results_cell_one {fn : Func} {r : Tmp} {ty n : Nat} (h : fn.results = #[.cell r ty]) (d : TypeDesc) (hu : Try.prog.underlying ty = some d) (hd : d.isRow = true) (hi : (Try.prog.info? ty).map (·.size) = some n)
    (tmps : Array Value) (w : World) (b : Nat) (cs : Array Value) (hr : tmps.getD r undef = .pointer (some ⟨b, 0, none⟩)) (hrow : row w b 0 n = some cs) :
    (results fn tmps).run Try.prog w = .ok (.agg cs) w := by
  obtain ⟨hs, hg⟩ := row_cells hrow
  have hl := run_loadVar_mid (P := Try.prog) w b 0 ty cs.toList d hg hu hd (by rw [hi]; simp [hs])
  have hr' : tmps[r]?.getD undef = .pointer (some ⟨b, 0, none⟩) := by simpa using hr
  simp [results, h, hr', asAddr, hl]
end Go.Proofs.Ytkempjcdapfopaa
