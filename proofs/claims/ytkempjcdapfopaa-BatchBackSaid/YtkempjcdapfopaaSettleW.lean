/- The program's Sync and Crash, by contract. Conditions: the store lies in memory as 'StoreAt' says. -/
import Derived.Test.YtkempjcdapfopaaWriteW
import Derived.StillTailTactics
namespace Go.Proofs.Ytkempjcdapfopaa
open Go.RowKit
attribute [local go_sem ↓] Go.wp_at_zero Go.wp_at_succ

theorem wp_tail {P : Program} {id : Nat} {Q : Exit → Act → World → Prop} {a : Act} {w : World} {l : List Oper} (n : Nat) (hm : P.follows .mixedOrders = true) (hB : Region.lexTailB .any l.toArray n = true)
    (h : wpStill P l.toArray w.drew (fun a' => wpList P l.toArray Q (l.drop n) a' w.drew) (l.take n) a) : (Code.region id l.toArray true).wp P Q a w := wp_region_still_tail n hm hB h

/-- what one write that waits comes to, by its fate -/
def settle1 (L : Ls) (x : Nat × Bk) (f : Int) : Ls := if f = 1 then L.set x.1 (x.2, false) else if f = 2 then L.set x.1 (Bk.zero, true) else L
theorem settle1_len (L : Ls) (x : Nat × Bk) (f : Int) : (settle1 L x f).length = L.length := by
  unfold settle1; split <;> (try split) <;> simp

/-- a function value that tells a fate, and leaves the world alone -/
def Tells (f : Nat) (cap : Array Value) (w : World) (i : Nat) (v : Int) : Prop :=
  Calls Try.prog f (#[.int .i64 i] ++ cap) w fun e w' => e = .returned (.int .u8 v) ∧ w = w'

set_option maxRecDepth 100000 in
set_option maxHeartbeats 800000 in
theorem settle1_one (w : World) (p lb g2 g3 f : Nat) (cap : Array Value) (wv mv : Value) (L : Ls) (i k : Nat) (b : Bk)
    (hg2 : Blk w g2 25 #[.pointer (some ⟨p, 0, none⟩)]) (hg3 : Blk w g3 112 #[.func (.func f) #[] cap])
    (hp : Blk w p 102 #[.slice (some ⟨lb, 0, none⟩) L.length L.length, wv, mv]) (hl : Blk w lb 110 (flat hc L)) (hk : k < L.length)
    (hcf : ∀ args w, (callFunc f args).run Try.prog w = .ok (.enter f args) w) (ht : Tells f cap (w.alloc (.cells (wcells k b) 140)) i 1) :
    Calls Try.prog 76 #[.int .i64 i, .agg (wcells k b), .pointer (some ⟨g3, 0, none⟩), .pointer (some ⟨g2, 0, none⟩)] w fun e w' => e = .returned (.tuple #[]) ∧ Blk w' lb 110 (flat hc (L.set k (b, false))) ∧ Only [lb] w w' := by
  have c3 : w.cell? ⟨g3, 0, none⟩ = some (.func (.func f) #[] cap) := by rw [hg3.cell]; rfl
  have c2 : w.cell? ⟨g2, 0, none⟩ = some (.pointer (some ⟨p, 0, none⟩)) := by rw [hg2.cell]; rfl
  have l3 := hg3.lt
  have l2 := hg2.lt
  have HT := hide ht
  clear ht
  go_enter Try.func76, Try.ntmps76
  go_wp2_with fail
  refine Calls.mono HT.out ?_
  rintro e w' ⟨rfl, rfl⟩
  clear hcf
  have n2 := hg2.ne_ hl (by decide)
  have np := hp.ne_ hl (by decide)
  have nb : w.heap.size ≠ lb := by have := hl.lt; omega
  have lp := hp.lt
  have ll := hl.lt
  have cp : w.cell? ⟨p, 0, none⟩ = some (.slice (some ⟨lb, 0, none⟩) L.length L.length) := by rw [hp.cell]; rfl
  have pl : canPut w lb (k * 65) 65 = true := hl.canPut _ _ (by rw [size_flat size_hc]; omega)
  have HL := hide hl
  clear hg2 hg3 hp hl c3 HT
  go_wp2
  refine wp_tail 10 (by kernel_rfl) (by kernel_rfl) ?_
  simp only [List.take_succ_cons, List.take_zero, List.drop_succ_cons, List.drop_zero]
  repeat still_step
  refine wpStill_nil ?_
  go_wp2
  go_end0
  refine ⟨rfl, ?_, (((Only.refl [lb] w).put (.inl (by simp)) _ _).alloc _).drew⟩
  have hb := ((HL.out.put_ (k * 65) (hcells b false)).alloc (Obj.cells (wcells (↑k) b) 140)).drew
  rw [show splice (flat hc L) (k * 65) (hcells b false) = flat hc (L.set k (b, false)) from flat_set size_hc hk (b, false)] at hb
  exact hb
set_option maxRecDepth 100000 in
set_option maxHeartbeats 800000 in
theorem settle1_two (w : World) (p lb g2 g3 f : Nat) (cap : Array Value) (wv mv : Value) (L : Ls) (i k : Nat) (b : Bk)
    (hg2 : Blk w g2 25 #[.pointer (some ⟨p, 0, none⟩)]) (hg3 : Blk w g3 112 #[.func (.func f) #[] cap])
    (hp : Blk w p 102 #[.slice (some ⟨lb, 0, none⟩) L.length L.length, wv, mv]) (hl : Blk w lb 110 (flat hc L)) (hk : k < L.length)
    (hcf : ∀ args w, (callFunc f args).run Try.prog w = .ok (.enter f args) w) (ht : Tells f cap (w.alloc (.cells (wcells k b) 140)) i 2) :
    Calls Try.prog 76 #[.int .i64 i, .agg (wcells k b), .pointer (some ⟨g3, 0, none⟩), .pointer (some ⟨g2, 0, none⟩)] w fun e w' => e = .returned (.tuple #[]) ∧ Blk w' lb 110 (flat hc (L.set k (Bk.zero, true))) ∧ Only [lb] w w' := by
  have c3 : w.cell? ⟨g3, 0, none⟩ = some (.func (.func f) #[] cap) := by rw [hg3.cell]; rfl
  have c2 : w.cell? ⟨g2, 0, none⟩ = some (.pointer (some ⟨p, 0, none⟩)) := by rw [hg2.cell]; rfl
  have l3 := hg3.lt
  have l2 := hg2.lt
  have HT := hide ht
  clear ht
  go_enter Try.func76, Try.ntmps76
  go_wp2_with fail
  refine Calls.mono HT.out ?_
  rintro e w' ⟨rfl, rfl⟩
  clear hcf
  have n2 := hg2.ne_ hl (by decide)
  have np := hp.ne_ hl (by decide)
  have nb : w.heap.size ≠ lb := by have := hl.lt; omega
  have lp := hp.lt
  have ll := hl.lt
  have cp : w.cell? ⟨p, 0, none⟩ = some (.slice (some ⟨lb, 0, none⟩) L.length L.length) := by rw [hp.cell]; rfl
  have pl : canPut w lb (k * 65) 65 = true := hl.canPut _ _ (by rw [size_flat size_hc]; omega)
  have HL := hide hl
  clear hg2 hg3 hp hl c3 HT
  go_wp2
  refine wp_tail 8 (by kernel_rfl) (by kernel_rfl) ?_
  simp only [List.take_succ_cons, List.take_zero, List.drop_succ_cons, List.drop_zero]
  repeat still_step
  refine wpStill_nil ?_
  go_wp2
  go_end0
  refine ⟨rfl, ?_, (((Only.refl [lb] w).put (.inl (by simp)) _ _).alloc _).drew⟩
  have hb := ((HL.out.put_ (k * 65) (hcells Bk.zero true)).alloc (Obj.cells (wcells (↑k) b) 140)).drew
  rw [show splice (flat hc L) (k * 65) (hcells Bk.zero true) = flat hc (L.set k (Bk.zero, true)) from flat_set size_hc hk (Bk.zero, true)] at hb
  exact hb
set_option maxRecDepth 100000 in
set_option maxHeartbeats 800000 in
theorem settle1_non (w : World) (p lb g2 g3 f : Nat) (cap : Array Value) (wv mv : Value) (L : Ls) (i k : Nat) (b : Bk)
    (hg2 : Blk w g2 25 #[.pointer (some ⟨p, 0, none⟩)]) (hg3 : Blk w g3 112 #[.func (.func f) #[] cap])
    (hp : Blk w p 102 #[.slice (some ⟨lb, 0, none⟩) L.length L.length, wv, mv]) (hl : Blk w lb 110 (flat hc L)) (hk : k < L.length)
    (hcf : ∀ args w, (callFunc f args).run Try.prog w = .ok (.enter f args) w) (v : Int) (h1 : (v == 1) = false) (h2 : (v == 2) = false) (ht : Tells f cap (w.alloc (.cells (wcells k b) 140)) i v) :
    Calls Try.prog 76 #[.int .i64 i, .agg (wcells k b), .pointer (some ⟨g3, 0, none⟩), .pointer (some ⟨g2, 0, none⟩)] w fun e w' => e = .returned (.tuple #[]) ∧ Only [] w w' := by
  have c3 : w.cell? ⟨g3, 0, none⟩ = some (.func (.func f) #[] cap) := by rw [hg3.cell]; rfl
  have c2 : w.cell? ⟨g2, 0, none⟩ = some (.pointer (some ⟨p, 0, none⟩)) := by rw [hg2.cell]; rfl
  have l3 := hg3.lt
  have l2 := hg2.lt
  have HT := hide ht
  clear ht
  go_enter Try.func76, Try.ntmps76
  go_wp2_with fail
  refine Calls.mono HT.out ?_
  rintro e w' ⟨rfl, rfl⟩
  clear hcf
  clear hg2 hg3 hp hl c3 HT
  go_wp2
  go_end0
  exact ⟨rfl, (Only.refl [] w).alloc _⟩

theorem settle1_any (w : World) (p lb g2 g3 f : Nat) (cap : Array Value) (wv mv : Value) (L : Ls) (i k : Nat) (b : Bk)
    (hg2 : Blk w g2 25 #[.pointer (some ⟨p, 0, none⟩)]) (hg3 : Blk w g3 112 #[.func (.func f) #[] cap])
    (hp : Blk w p 102 #[.slice (some ⟨lb, 0, none⟩) L.length L.length, wv, mv]) (hl : Blk w lb 110 (flat hc L)) (hk : k < L.length)
    (hcf : ∀ args w, (callFunc f args).run Try.prog w = .ok (.enter f args) w) (v : Int) (ht : Tells f cap (w.alloc (.cells (wcells k b) 140)) i v) :
    Calls Try.prog 76 #[.int .i64 i, .agg (wcells k b), .pointer (some ⟨g3, 0, none⟩), .pointer (some ⟨g2, 0, none⟩)] w fun e w' => e = .returned (.tuple #[]) ∧ Blk w' lb 110 (flat hc (settle1 L (k, b) v)) ∧ Only [lb] w w' := by
  by_cases h1 : v = 1
  · subst h1
    have e : settle1 L (k, b) 1 = L.set k (b, false) := rfl
    rw [e]
    exact settle1_one w p lb g2 g3 f cap wv mv L i k b hg2 hg3 hp hl hk hcf ht
  · by_cases h2 : v = 2
    · subst h2
      have e : settle1 L (k, b) 2 = L.set k (Bk.zero, true) := rfl
      rw [e]
      exact settle1_two w p lb g2 g3 f cap wv mv L i k b hg2 hg3 hp hl hk hcf ht
    · have e : settle1 L (k, b) v = L := by unfold settle1; rw [if_neg h1, if_neg h2]
      rw [e]
      refine (settle1_non w p lb g2 g3 f cap wv mv L i k b hg2 hg3 hp hl hk hcf v (by simp [h1]) (by simp [h2]) ht).mono ?_
      rintro e w' ⟨he, ho⟩
      exact ⟨he, hl.only ho (by simp), ho.mono (by simp)⟩
theorem cf51 (args : Array Value) (w : World) : (callFunc 51 args).run Try.prog w = .ok (.enter 51 args) w := by kernel_rfl
theorem cf52 (args : Array Value) (w : World) : (callFunc 52 args).run Try.prog w = .ok (.enter 52 args) w := by kernel_rfl
end Go.Proofs.Ytkempjcdapfopaa
