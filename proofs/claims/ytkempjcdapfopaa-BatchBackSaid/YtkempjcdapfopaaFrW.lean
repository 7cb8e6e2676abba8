/- A batch for the program, the program's, whether two are the same, and the document's examples, by contract. Conditions: the lines lie in memory as 'LinesAt' says. -/
import Derived.Test.YtkempjcdapfopaaBatP
import Derived.Lib.SlBytesConst
namespace Go.Proofs.Ytkempjcdapfopaa
open Go.RowKit
attribute [local go_sem ↓] Go.wp_at_zero Go.wp_at_succ

theorem OwnL.cell {e : TypeId} {w0 w : World} {v : Value} {l : List (Int × Int)} (h : OwnL e w0 w v l) (p : Addr) (u : Value) (hp : w0.heap.size ≤ p.block) (hne : v.ownBlock ≠ some p.block) : OwnL e w0 (w.setCell p u) v l :=
  ⟨ownsRow_only h.1 ((Only.refl [p.block] w).setCell (.inl (by simp)) u) (fun g' hg' => by simp; rintro rfl; exact hne hg'), h.2.setCell (.inr hp) u⟩

set_option maxRecDepth 100000 in
set_option maxHeartbeats 1600000 in
theorem to31 (w : World) (B : Nat) (s e : Int) (v : Value) (l : List (Int × Int)) (h : LinesAt w B v l) (hB : B ≤ w.heap.size) (hl : l.length ≤ 1000000) :
    Calls Try.prog 31 #[.agg #[.int .i64 s, .int .i64 e, v]] w fun en w' => ∃ v' : Value, en = .returned (.agg #[.int .i64 s, .int .i64 e, v']) ∧ OwnL 118 w w' v' l := by
  have HV := hide h
  obtain ⟨A, c, rfl, h⟩ := h
  clear h
  go_enter Try.func31, Try.ntmps31
  go_wp2
  have hb1 : Blk ((w.alloc (Obj.cells #[.int .i64 s, .int .i64 e, .slice A l.length c] 59)).alloc (Obj.cells #[.int .i64 0, .int .i64 0, .slice none 0 0] 65)).drew w.heap.size 59 #[.int .i64 s, .int .i64 e, .slice A l.length c] := ((Blk.new w 59 _).alloc _).drew
  have hr1 : Blk ((w.alloc (Obj.cells #[.int .i64 s, .int .i64 e, .slice A l.length c] 59)).alloc (Obj.cells #[.int .i64 0, .int .i64 0, .slice none 0 0] 65)).drew (w.heap.size + 1) 65 #[.int .i64 0, .int .i64 0, .slice none 0 0] := by
    have := (Blk.new (w.alloc (Obj.cells #[.int .i64 s, .int .i64 e, .slice A l.length c] 59)) 65 #[.int .i64 0, .int .i64 0, .slice none 0 0]).drew
    simpa using this
  have O1 : Only [] w ((w.alloc (Obj.cells #[.int .i64 s, .int .i64 e, .slice A l.length c] 59)).alloc (Obj.cells #[.int .i64 0, .int .i64 0, .slice none 0 0] 65)).drew := (((Only.refl [] w).alloc _).alloc _).drew
  have T := to58 _ B _ l (HV.out.only O1 hB (by simp)) (by have := O1.size; omega) hl
  go_region_held3 (fun w' => w'.cell? ⟨w.heap.size, 0, none⟩ = some (.int .i64 s) ∧ w'.cell? ⟨w.heap.size, 1, none⟩ = some (.int .i64 e) ∧ w'.cell? ⟨w.heap.size, 2, none⟩ = some (.slice A l.length c))
    (first
      | (exact ⟨by rw [hb3.cell]; rfl, by rw [hb3.cell]; rfl, by rw [hb3.cell]; rfl⟩)
      | (exact ⟨by rw [hb1.cell]; rfl, by rw [hb1.cell]; rfl, by rw [hb1.cell]; rfl⟩)
      | go_keep)
    (first
      | (go_at_call 58
         ((with_reducible refine T.mono ?_))
         rintro e3 w3 ⟨v3, rfl, hw3⟩
         obtain ⟨ao3, cv3, rfl⟩ := ownsRow_val hw3.1
         have hb3 := hb1.only hw3.2 (by simp)
         have hr3 := hr1.only hw3.2 (by simp)
         have z0 : w3.cell? ⟨w.heap.size + 1, 0, none⟩ = some (.int .i64 0) := by rw [hr3.cell]; rfl
         have z1 : w3.cell? ⟨w.heap.size + 1, 1, none⟩ = some (.int .i64 0) := by rw [hr3.cell]; rfl
         have z2 : w3.cell? ⟨w.heap.size + 1, 2, none⟩ = some (.slice none 0 0) := by rw [hr3.cell]; rfl
         have f0 := hr3.frozen 0
         have f1 := hr3.frozen 1
         have f2 := hr3.frozen 2))
  have hne : (Value.slice ao3 l.length cv3).ownBlock ≠ some (w.heap.size + 1) := fun h => by have := (hw3.1.lt _ h).1; simp at this; omega
  have h3 := hw3.base O1
  have HF := hide (((h3.cell ⟨w.heap.size + 1, 0, none⟩ (.int .i64 s) (by simp) hne).cell ⟨w.heap.size + 1, 1, none⟩ (.int .i64 e) (by simp) hne).cell ⟨w.heap.size + 1, 2, none⟩ (.slice ao3 l.length cv3) (by simp) hne)
  clear hne h3 hw3 hb3 hr3 hb1 hr1 O1 T
  go_wp2
  exact bodyPost_ret (v := .agg #[.int .i64 s, .int .i64 e, .slice ao3 l.length cv3]) (by simp [results, Try.results31, go_sem, z0, z1, z2]) rfl ⟨_, rfl, HF.out⟩

set_option maxRecDepth 100000 in
set_option maxHeartbeats 1600000 in
theorem from34 (w : World) (B : Nat) (s e : Int) (v : Value) (l : List (Int × Int)) (h : LinesAt w B v l) (hB : B ≤ w.heap.size) (hl : l.length ≤ 1000000) :
    Calls Try.prog 34 #[.agg #[.int .i64 s, .int .i64 e, v]] w fun en w' => ∃ v' : Value, en = .returned (.agg #[.int .i64 s, .int .i64 e, v']) ∧ OwnL 149 w w' v' l := by
  have HV := hide h
  obtain ⟨A, c, rfl, h⟩ := h
  clear h
  go_enter Try.func34, Try.ntmps34
  go_wp2
  have hb1 : Blk ((w.alloc (Obj.cells #[.int .i64 s, .int .i64 e, .slice A l.length c] 65)).alloc (Obj.cells #[.int .i64 0, .int .i64 0, .slice none 0 0] 59)).drew w.heap.size 65 #[.int .i64 s, .int .i64 e, .slice A l.length c] := ((Blk.new w 65 _).alloc _).drew
  have hr1 : Blk ((w.alloc (Obj.cells #[.int .i64 s, .int .i64 e, .slice A l.length c] 65)).alloc (Obj.cells #[.int .i64 0, .int .i64 0, .slice none 0 0] 59)).drew (w.heap.size + 1) 59 #[.int .i64 0, .int .i64 0, .slice none 0 0] := by
    have := (Blk.new (w.alloc (Obj.cells #[.int .i64 s, .int .i64 e, .slice A l.length c] 65)) 59 #[.int .i64 0, .int .i64 0, .slice none 0 0]).drew
    simpa using this
  have O1 : Only [] w ((w.alloc (Obj.cells #[.int .i64 s, .int .i64 e, .slice A l.length c] 65)).alloc (Obj.cells #[.int .i64 0, .int .i64 0, .slice none 0 0] 59)).drew := (((Only.refl [] w).alloc _).alloc _).drew
  have T := to63 _ B _ l (HV.out.only O1 hB (by simp)) (by have := O1.size; omega) hl
  go_region_held3 (fun w' => w'.cell? ⟨w.heap.size, 0, none⟩ = some (.int .i64 s) ∧ w'.cell? ⟨w.heap.size, 1, none⟩ = some (.int .i64 e) ∧ w'.cell? ⟨w.heap.size, 2, none⟩ = some (.slice A l.length c))
    (first
      | (exact ⟨by rw [hb3.cell]; rfl, by rw [hb3.cell]; rfl, by rw [hb3.cell]; rfl⟩)
      | (exact ⟨by rw [hb1.cell]; rfl, by rw [hb1.cell]; rfl, by rw [hb1.cell]; rfl⟩)
      | go_keep)
    (first
      | (go_at_call 63
         ((with_reducible refine T.mono ?_))
         rintro e3 w3 ⟨v3, rfl, hw3⟩
         obtain ⟨ao3, cv3, rfl⟩ := ownsRow_val hw3.1
         have hb3 := hb1.only hw3.2 (by simp)
         have hr3 := hr1.only hw3.2 (by simp)
         have z0 : w3.cell? ⟨w.heap.size + 1, 0, none⟩ = some (.int .i64 0) := by rw [hr3.cell]; rfl
         have z1 : w3.cell? ⟨w.heap.size + 1, 1, none⟩ = some (.int .i64 0) := by rw [hr3.cell]; rfl
         have z2 : w3.cell? ⟨w.heap.size + 1, 2, none⟩ = some (.slice none 0 0) := by rw [hr3.cell]; rfl
         have f0 := hr3.frozen 0
         have f1 := hr3.frozen 1
         have f2 := hr3.frozen 2))
  have hne : (Value.slice ao3 l.length cv3).ownBlock ≠ some (w.heap.size + 1) := fun h => by have := (hw3.1.lt _ h).1; simp at this; omega
  have h3 := hw3.base O1
  have HF := hide (((h3.cell ⟨w.heap.size + 1, 0, none⟩ (.int .i64 s) (by simp) hne).cell ⟨w.heap.size + 1, 1, none⟩ (.int .i64 e) (by simp) hne).cell ⟨w.heap.size + 1, 2, none⟩ (.slice ao3 l.length cv3) (by simp) hne)
  clear hne h3 hw3 hb3 hr3 hb1 hr1 O1 T
  go_wp2
  exact bodyPost_ret (v := .agg #[.int .i64 s, .int .i64 e, .slice ao3 l.length cv3]) (by simp [results, Try.results34, go_sem, z0, z1, z2]) rfl ⟨_, rfl, HF.out⟩

set_option maxRecDepth 100000 in
set_option maxHeartbeats 1600000 in
theorem same33 (w : World) (B : Nat) (s e : Int) (v v' : Value) (l : List (Int × Int)) (h : LinesAt w B v l) (h' : LinesAt w B v' l) (hB : B ≤ w.heap.size) (hl : l.length ≤ 1000000) :
    Calls Try.prog 33 #[.agg #[.int .i64 s, .int .i64 e, v], .agg #[.int .i64 s, .int .i64 e, v']] w fun en w' => en = .returned (.bool true) ∧ Only [] w w' := by
  have HV := hide (And.intro h h')
  obtain ⟨A, c, rfl, h⟩ := h
  obtain ⟨A', c', rfl, h'⟩ := h'
  clear h h'
  go_enter Try.func33, Try.ntmps33
  go_wp2_with fail
  have O1 : Only [] w ((w.alloc (Obj.cells #[.int .i64 s, .int .i64 e, .slice A l.length c] 59)).alloc (Obj.cells #[.int .i64 s, .int .i64 e, .slice A' l.length c'] 59)) := ((Only.refl [] w).alloc _).alloc _
  refine (lines_same _ B _ _ l (HV.out.1.only O1 hB (by simp)) (HV.out.2.only O1 hB (by simp)) (by have := O1.size; omega) hl).mono ?_
  rintro e2 w2 ⟨rfl, ho2⟩
  have HO := hide (O1.trans ho2 (G := []) (H := []) (by simp) (by simp))
  clear O1 ho2
  go_wp2
  go_ret
  exact ⟨rfl, HO.out⟩

theorem OwnB.cap {w0 w : World} {A : Option Addr} {n c : Nat} {l : List Int} (h : OwnB w0 w (.slice A n c) l) : l.length ≤ c := by
  rcases h.1.2 with ⟨hv, hn⟩ | ⟨g, cap, cur, hv, hb, hg, h1, h2, h3, h4⟩
  · omega
  · injection hv with _ _ e
    omega
/-- bytes that Put made can be got -/
theorem PutOk.open {w w' : World} {s e : Int} {l : List (Int × Int)} {en : Ending} (h : PutOk w s e l en w') (hc : bchk s e l = 0) : ∃ A c, en = .returned (.tuple #[.slice A (putL s e l).length c, .int .i64 0]) ∧ OwnB w w' (.slice A (putL s e l).length c) (putL s e l) ∧ (putL s e l).length ≤ c ∧ (∀ z ∈ putL s e l, 0 ≤ z ∧ z < 256) := by
  obtain ⟨v', rfl, ho⟩ := h
  obtain ⟨A, c, rfl⟩ := ownsRow_val ho.1
  refine ⟨A, c, rfl, ho, ho.cap, fun z hz => ?_⟩
  obtain ⟨_, hl, hok⟩ := bchk_ok hc
  unfold putL at hz
  rw [List.mem_append] at hz
  rcases hz with hz | hz
  · exact bodyL_bytes s e l hl hok z hz
  · exact le_bytes _ _ z hz
def dig9 : List Int := [49, 50, 51, 52, 53, 54, 55, 56, 57]
theorem run_dig9 (w : World) : (buildSliceR 32 9 #[(0, .int .u8 49), (1, .int .u8 50), (2, .int .u8 51), (3, .int .u8 52), (4, .int .u8 53), (5, .int .u8 54), (6, .int .u8 55), (7, .int .u8 56), (8, .int .u8 57)]).run Try.prog w = .ok (.slice (some ⟨w.heap.size, 0, none⟩) 9 9) (w.alloc (.cells #[.int .u8 49, .int .u8 50, .int .u8 51, .int .u8 52, .int .u8 53, .int .u8 54, .int .u8 55, .int .u8 56, .int .u8 57] 5)) := by kernel_rfl
theorem bchk_10 : bchk 1 0 [] = 0 := by decide
theorem conv32 (W : World) (N : Nat) (h : N = W.heap.size) (C : Array Value) (n c : Nat) : (convert 32 32 (.slice (some ⟨N, 0, none⟩) n c)).run Try.prog (W.alloc (.cells C 5)) = .ok (.slice (some ⟨N, 0, none⟩) n c) (W.alloc (.cells C 5 (C.size, C.size + 1))) := by
  subst h
  exact Lib.run_convert_bytes_const W 32 5 C n c Try.underlying32 Try.underlying5
/-- a row of bytes that was just laid -/
theorem Bytes.made (W : World) (N : Nat) (h : N = W.heap.size) (l : List Int) (n c : Nat) (hn : n = l.length) (cs : Array Value) (hcs : cs.toList = byV l) (fr : Nat × Nat) (hz : ∀ z ∈ l, 0 ≤ z ∧ z < 256) : Bytes (W.alloc (.cells cs 5 fr)) (W.heap.size + 1) (.slice (some ⟨N, 0, none⟩) n c) l := by
  subst h hn
  refine ⟨_, c, rfl, hz, fun hp => ⟨W.heap.size, 0, rfl, by omega, fun j hj => ?_⟩⟩
  rw [cell_of_row _ W.heap.size (0 + j) cs 5 fr (heap_alloc_new W _), ← Array.getElem?_toList, hcs]
  simp [byV, List.getElem?_eq_getElem hj]
attribute [local go_sem] run_dig9 conv32
set_option maxRecDepth 100000 in
set_option maxHeartbeats 1600000 in
theorem alive29 (w : World) : Calls Try.prog 29 #[] w fun en w' => en = .returned (.bool true) ∧ Only [] w w' := by
  have hn : LinesAt w 0 (.slice none 0 0) [] := ⟨none, 0, rfl, by simp, by simp⟩
  go_enter Try.func29, Try.ntmps29
  go_wp2_with fail
  refine (bput_ok w 0 1 0 _ [] hn (by omega) bchk_10).mono ?_
  rintro e2 w2 hp
  obtain ⟨A, c, rfl, hob, hcap, hby⟩ := hp.open bchk_10
  have hlen : (putL 1 0 []).length = 15 := putL_len 1 0 []
  obtain ⟨gC, gS, gE, gL⟩ := get_put bchk_10
  have HG := hide (And.intro gC (And.intro gS (And.intro gE (And.intro gL (And.intro hob (And.intro hlen (And.intro hcap hby)))))))
  clear hp hob hcap hby gC gS gE gL
  rw [hlen]
  clear hlen
  go_wp2_with fail
  have hB : Bytes w2 w2.heap.size (.slice A (putL 1 0 []).length c) (putL 1 0 []) := HG.out.2.2.2.2.1.bytes HG.out.2.2.2.2.2.2.2
  have hB' : Calls Try.prog 32 #[.slice A 15 c] w2 (GetR w2 (putL 1 0 [])) := by
    have := bget_any w2 _ A c (putL 1 0 []) (Nat.le_refl _) HG.out.2.2.2.2.2.2.1 (by rw [HG.out.2.2.2.2.2.1]; decide) hB
    rw [HG.out.2.2.2.2.2.1] at this
    exact this
  refine hB'.mono ?_
  rintro e3 w3 (⟨h0, _⟩ | ⟨_, v3, rfl, hl3⟩)
  · exact absurd HG.out.1 h0
  rw [HG.out.2.1, HG.out.2.2.1]
  obtain ⟨A3, c3, rfl⟩ := ownsRow_val hl3.1
  have HL := hide (And.intro hl3 (HG.out.2.2.2.2.1.2.trans hl3.2 (G := []) (H := []) (by simp) (by simp)))
  clear hB hB' hl3
  go_wp2_with fail
  have hbd : Bytes ((w3.alloc (Obj.cells #[.int .i64 1, .int .i64 0, .slice A3 (linesOf (putL 1 0 [])).length c3] 65)).alloc (Obj.cells #[.int .u8 49, .int .u8 50, .int .u8 51, .int .u8 52, .int .u8 53, .int .u8 54, .int .u8 55, .int .u8 56, .int .u8 57] 5 (9, 10))) _ (.slice (some ⟨w3.heap.size + 1, 0, none⟩) 9 9) dig9 :=
    Bytes.made _ _ (by simp) dig9 9 9 rfl _ rfl _ (by decide)
  have HD := hide hbd
  clear hbd
  go_wp2_with fail
  refine (sum_any _ _ _ dig9 HD.out (by simp) (by decide)).mono ?_
  rintro e4 w4 ⟨rfl, ho4⟩
  rw [show sumF dig9 = 3421780262 from sum_digits]
  have hX4 := ((Blk.new w3 65 #[.int .i64 1, .int .i64 0, .slice A3 (linesOf (putL 1 0 [])).length c3]).alloc (Obj.cells #[.int .u8 49, .int .u8 50, .int .u8 51, .int .u8 52, .int .u8 53, .int .u8 54, .int .u8 55, .int .u8 56, .int .u8 57] 5 (9, 10))).only ho4 (by simp)
  have z0 : w4.cell? ⟨w3.heap.size, 0, none⟩ = some (.int .i64 1) := by rw [hX4.cell]; rfl
  have HO := hide (((HL.out.2.alloc (Obj.cells #[.int .i64 1, .int .i64 0, .slice A3 (linesOf (putL 1 0 [])).length c3] 65)).alloc (Obj.cells #[.int .u8 49, .int .u8 50, .int .u8 51, .int .u8 52, .int .u8 53, .int .u8 54, .int .u8 55, .int .u8 56, .int .u8 57] 5 (9, 10))).trans ho4 (G := []) (H := []) (by simp) (by simp))
  clear hX4 ho4
  go_wp2
  go_ret
  exact ⟨rfl, HO.out⟩
end Go.Proofs.Ytkempjcdapfopaa
