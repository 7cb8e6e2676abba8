/- The program's queue of writes, and Write, by contract. Conditions: the store lies in memory as 'StoreAt' says. -/
import Derived.Test.YtkempjcdapfopaaReadW
import Derived.Deep.RegionHeld3
import Derived.Deep.RegionLaw
import Derived.Deep.AppendLies
import Derived.Deep.DrawnRows
import Derived.Deep.RegionWith
namespace Go.Proofs.Ytkempjcdapfopaa
open Go.RowKit
attribute [local go_sem ↓] Go.wp_at_zero Go.wp_at_succ

theorem ones_list (cs : Array Value) (h : ones cs = true) : ∀ u ∈ cs.toList, u.oneCell' = true := by
  unfold ones at h
  rw [Array.all_eq_true_iff_forall_mem] at h
  intro u hu
  exact h u (by simpa using hu)
theorem heap2 (w : World) (o o' : Obj) : ((w.alloc o).alloc o').drew.heap[w.heap.size + 1]? = some o' := by
  have := heap_alloc_new (w.alloc o) o'
  simpa [World.drew] using this

/-- what an append and a store into the block p leave -/
def Pushed (w : World) (p t o : Nat) (cs : Array Value) (e : TypeId) (wv : Value) (n : Nat) (xs : List Value) (w' : World) : Prop :=
  ∃ v', Only (p :: wv.ownBlock.toList) w w' ∧ w'.ownsRow 0 e 65 v' n xs ∧ Blk w' p t (cs.setIfInBounds o v') ∧ (v'.ownBlock = wv.ownBlock ∨ ∃ g, v'.ownBlock = some g ∧ w.heap.size ≤ g)

theorem pushed_end {w w1 : World} {p t o n cap gg : Nat} {cs : Array Value} {e : TypeId} {wv : Value} {xs : List Value} {X Y : Obj} (hb : Blk w p t cs) (hne : e ≠ t) (hw0 : wv.ownBlock ≠ some p)
    (hown1 : w1.ownsRow 0 e 65 (.slice (some ⟨gg, 0, none⟩) n cap) n xs) (hgrow : ((w.alloc X).alloc Y).drew.grownBy w1 wv.ownBlock) (hat : wv.ownBlock = some gg ∨ gg = w.heap.size + 2) :
    Pushed w p t o cs e wv n xs (w1.setCell ⟨p, o, none⟩ (.slice (some ⟨gg, 0, none⟩) n cap)) := by
  have h1 : Only (wv.ownBlock.toList) w w1 := ((((Only.refl (wv.ownBlock.toList) w).alloc X).alloc Y).drew).grown hgrow (fun k hk => by simp [hk])
  have hb1 : Blk w1 p t cs := hb.only h1 (by
    intro hm
    simp only [Option.mem_toList] at hm
    exact hw0 hm)
  have hgp : gg ≠ p := by
    have := own_blk_ne hown1 hb1 hne
    simp [Value.ownBlock] at this
    exact this
  refine ⟨_, ?_, ?_, hb1.set_ _ _, ?_⟩
  · exact (h1.mono (by intro x hx; exact List.mem_cons_of_mem _ hx)).setCell (.inl (by simp)) _
  · refine ownsRow_only hown1 ((Only.refl [p] w1).setCell (.inl (by simp)) _) ?_
    intro g hg
    simp [Value.ownBlock] at hg
    subst hg
    simp [hgp]
  · rcases hat with h | h
    · left; rw [h]; rfl
    · right; exact ⟨gg, rfl, by omega⟩

set_option maxRecDepth 100000 in
set_option maxHeartbeats 800000 in
theorem push_any (p t o : Nat) (cs : Array Value) (wv : Value) (n : Nat) (xs : List Value) (a : Int) (b : Bk) (w : World)
    (hb : Blk w p t cs) (ho : cs[o]? = some wv) (hne : 140 ≠ t) (hown : w.ownsRow 0 140 65 wv n xs) (hn : n + 1 ≤ 1000000) :
    Calls Try.prog 74 #[.pointer (some ⟨p, o, none⟩), .agg (wcells a b)] w fun e w' => e = .returned (.tuple #[]) ∧ Pushed w p t o cs 140 wv (n + 1) (xs ++ (wcells a b).toList) w' := by
  obtain ⟨i0, hi0, hz0, hz1, hz2⟩ := info_parts info140
  have lg := hb.lt
  have hw0 := own_blk_ne hown hb hne
  have hK : w.cell? ⟨p, o, none⟩ = some wv := by rw [hb.cell]; exact ho
  have hF : w.frozen? ⟨p, o, none⟩ = false := hb.frozen o
  have HB := hide hb
  clear hb ho
  go_enter Try.func74, Try.ntmps74
  go_wp2_with fail
  go_region_law
    ((refine step_append_lies _ (by rfl) _ _ _ (by rfl) 0 140 i0 _ 65 72 Try.underlying98 hi0 hz0 hz1 hz2 (by simp [Value.cells]) (by omega) wv n xs (by rfl) (((hown.alloc _).alloc _).drew)
        ⟨w.heap.size + 1, 0, none⟩ 1 1 (wcells a b).toList (by rfl) (by simp) (World.news_of_block (cs := wcells a b) (t := 140) (fr := (0, 0)) (heap2 _ _ _)) (ones_list _ (ones_wcells a b))
        (by omega) (by simp only [maxLen]; omega) (by omega) (by simp) (w.heap.size + 2) (by simp) ?_; intro gg cap w1 hown1 hgrow hat hlt
      have hK1 : w1.cell? ⟨p, o, none⟩ = some wv := by rw [hgrow.cell_far _ (by simp; omega) (Ne.symm hw0)]; go_simp
      have hF1 : w1.frozen? ⟨p, o, none⟩ = false := by rw [hgrow.frozen_far _ (by simp; omega) (Ne.symm hw0)]; go_simp))
  all_goals
    go_wp2
    go_end0
    exact ⟨rfl, pushed_end HB.out hne hw0 hown1 hgrow hat⟩

/-- what Write answers, and what waits behind it -/
def wrE (L : Ls) (W : Ws) (at_ : Int) : Int := if 0 ≤ at_ ∧ at_ < L.length then (if 4096 ≤ W.length then 10 else 0) else 2
def wrW (L : Ls) (W : Ws) (at_ : Int) (b : Bk) : Ws := if wrE L W at_ = 0 then W ++ [(at_.toNat, b)] else W

/-- a store that has changed: its own blocks, and new ones -/
def Moved (w w' : World) (p : Nat) (F : List Nat) (L : Ls) (W : Ws) : Prop := ∃ F', StoreAt w' p F' L W ∧ Only F w w' ∧ ∀ x ∈ F', x ∈ F ∨ w.heap.size ≤ x
theorem Moved.refl {w w' : World} {p : Nat} {F : List Nat} {L : Ls} {W : Ws} (h : StoreAt w p F L W) (ho : Only [] w w') : Moved w w' p F L W :=
  ⟨F, h.only ho (by simp), ho.mono (by simp), fun x hx => .inl hx⟩

set_option maxRecDepth 100000 in
theorem write_no (w : World) (p : Nat) (F : List Nat) (L : Ls) (W : Ws) (at_ : Int) (b : Bk) (h : StoreAt w p F L W) (h0 : ¬ (0 ≤ at_ ∧ at_ < L.length)) :
    Calls Try.prog 43 #[.pointer (some ⟨p, 0, none⟩), .int .i64 at_, .agg b.cells] w fun e w' => e = .returned (.int .i64 2) ∧ Only [] w w' := by
  have hS := hide h
  have H0 := hide h0
  clear h h0
  go_enter Try.func43, Try.ntmps43
  go_wp2_with fail
  refine (check_no _ _ _ _ _ _ (hS.out.only ((Only.refl [] w).alloc _) (by simp)) H0.out).mono ?_
  rintro e w' ⟨rfl, rfl⟩
  go_wp2
  go_ret
  exact ⟨rfl, (Only.refl [] w).alloc _⟩

set_option maxRecDepth 100000 in
theorem write_full (w : World) (p : Nat) (F : List Nat) (L : Ls) (W : Ws) (at_ : Int) (b : Bk) (h : StoreAt w p F L W) (h0 : 0 ≤ at_) (h1 : at_ < L.length) (h2 : 4096 ≤ W.length) :
    Calls Try.prog 43 #[.pointer (some ⟨p, 0, none⟩), .int .i64 at_, .agg b.cells] w fun e w' => e = .returned (.int .i64 10) ∧ Only [] w w' := by
  have hS := hide h
  clear h
  go_enter Try.func43, Try.ntmps43
  go_wp2_with fail
  refine (check_yes _ _ _ _ _ _ (hS.out.only ((Only.refl [] w).alloc _) (by simp)) h0 h1).mono ?_
  rintro e w' ⟨rfl, rfl⟩
  go_wp2_with fail
  refine (waiting_any _ _ _ _ _ (hS.out.only ((Only.refl [] w).alloc _) (by simp))).mono ?_
  rintro e w' ⟨rfl, rfl⟩
  go_wp2
  go_ret
  exact ⟨rfl, (Only.refl [] w).alloc _⟩

theorem pushed_store {w w' : World} {p : Nat} {L : Ls} {W : Ws} {lb mb : Nat} {wv : Value} (hm : MapAt w mb (lastOf W)) (hl : Blk w lb 110 (flat hc L)) (hp : Blk w p 102 #[.slice (some ⟨lb, 0, none⟩) L.length L.length, wv, .map (some mb)])
    (hw : w.ownsRow 0 140 65 wv W.length (W.flatMap (fun x => (wc x).toList))) (k : Nat) (b : Bk)
    (hP : Pushed w p 102 1 #[.slice (some ⟨lb, 0, none⟩) L.length L.length, wv, .map (some mb)] 140 wv (W.length + 1) (W.flatMap (fun x => (wc x).toList) ++ (wcells k b).toList) w') :
    ∃ v', Only (p :: lb :: mb :: wv.ownBlock.toList) w w' ∧ Blk w' p 102 #[.slice (some ⟨lb, 0, none⟩) L.length L.length, v', .map (some mb)] ∧ Blk w' lb 110 (flat hc L) ∧ MapAt w' mb (lastOf W) ∧
      w'.ownsRow 0 140 65 v' (W ++ [(k, b)]).length ((W ++ [(k, b)]).flatMap (fun x => (wc x).toList)) ∧ (∀ x ∈ v'.ownBlock.toList, x ∈ wv.ownBlock.toList ∨ w.heap.size ≤ x) := by
  obtain ⟨v', ho, hown, hb, hv⟩ := hP
  have hlp := hl.ne_ hp (by decide)
  have hlw := own_blk_ne hw hl (by decide)
  have hmp := hm.ne hp
  have hmw := own_map_ne hw hm
  refine ⟨v', ho.mono ?_, ?_, hl.only ho ?_, hm.only ho ?_, ?_, ?_⟩
  · intro x hx
    simp only [List.mem_cons] at hx ⊢
    rcases hx with h | h
    · exact .inl h
    · exact .inr (.inr (.inr h))
  · simpa using hb
  · simp only [List.mem_cons, Option.mem_toList, not_or]
    exact ⟨hlp, hlw⟩
  · simp only [List.mem_cons, Option.mem_toList, not_or]
    exact ⟨hmp, hmw⟩
  · rw [← flat_snoc]
    simpa [wc] using hown
  · intro x hx
    simp only [Option.mem_toList] at hx ⊢
    rcases hv with h | ⟨g, h, hg⟩
    · left; rw [← h]; exact hx
    · right; rw [h] at hx; injection hx with hx; omega

set_option maxRecDepth 100000 in
set_option maxHeartbeats 800000 in
theorem write_yes (w : World) (p : Nat) (F : List Nat) (L : Ls) (W : Ws) (k : Nat) (b : Bk) (h : StoreAt w p F L W) (h1 : k < L.length) (h2 : W.length < 4096) :
    Calls Try.prog 43 #[.pointer (some ⟨p, 0, none⟩), .int .i64 k, .agg b.cells] w fun e w' => e = .returned (.int .i64 0) ∧ Moved w w' p F L (W ++ [(k, b)]) := by
  have hS := hide h
  clear h
  go_enter Try.func43, Try.ntmps43
  go_wp2_with fail
  refine (check_yes _ _ _ _ _ _ (hS.out.only ((Only.refl [] w).alloc _) (by simp)) (by omega) (by omega)).mono ?_
  rintro e w' ⟨rfl, rfl⟩
  go_wp2_with fail
  refine (waiting_any _ _ _ _ _ (hS.out.only ((Only.refl [] w).alloc _) (by simp))).mono ?_
  rintro e w' ⟨rfl, rfl⟩
  go_wp2
  obtain ⟨lb, mb, wv, hF, hp, hl, hm, hw, hr⟩ := hS.out
  have lp := hp.lt
  have hp1 : Blk (w.alloc (Obj.cells b.cells 45)).drew p 102 _ := (hp.alloc _).drew
  have hl1 : Blk (w.alloc (Obj.cells b.cells 45)).drew lb 110 _ := (hl.alloc _).drew
  have hm1 : MapAt (w.alloc (Obj.cells b.cells 45)).drew mb _ := hm.same (Below.heap_alloc w (.cells b.cells 45) mb hm.lt)
  have hw1 : (w.alloc (Obj.cells b.cells 45)).drew.ownsRow 0 140 65 wv _ _ := (hw.alloc _).drew
  have hbx : Blk (w.alloc (Obj.cells b.cells 45)).drew w.heap.size 45 b.cells := (Blk.new w 45 b.cells).drew
  have O1 : Only [] w (w.alloc (Obj.cells b.cells 45)).drew := ((Only.refl [] w).alloc _).drew
  go_region_with
    ((go_at_call 74
      refine (push_any p 102 1 _ wv W.length _ k b _ hp1 rfl (by decide) hw1 (by omega)).mono ?_
      rintro e w2 ⟨rfl, hP⟩))
  obtain ⟨v', ho2, hp2, hl2, hm2, hw2, hv2⟩ := pushed_store hm1 hl1 hp1 hw1 k b hP
  have hbx2 : Blk w2 w.heap.size 45 b.cells := hbx.only ho2 (by
    simp only [List.mem_cons, Option.mem_toList, not_or]
    have := hl.lt
    have := hm.lt
    refine ⟨by omega, by omega, by omega, fun e => ?_⟩
    have := (hw.lt _ e).2
    omega)
  clear hP hp1 hl1 hm1 hw1 hbx
  obtain ⟨w3, hrun, hm3, ho3⟩ := run_mapUpdate97 (w := w2.drew) hm2 k b
  have hc2 : w2.drew.cell? ⟨p, 2, none⟩ = some (.map (some mb)) := by rw [hp2.drew.cell]; rfl
  have hrw : row w2 w.heap.size 0 64 = some b.cells := by rw [hbx2.row 0 64 (by simp)]; simp
  go_wp2
  go_region
  all_goals go_wp2
  all_goals go_ret
  all_goals refine ⟨rfl, ?_⟩
  all_goals
    have hpm := hm2.ne hp2
    have hlm := hm2.ne hl2
    have hwm := own_map_ne hw2 hm2
    refine ⟨p :: lb :: mb :: v'.ownBlock.toList, ⟨lb, mb, v', rfl, hp2.drew.only ho3 (by simp; exact Ne.symm hpm), hl2.drew.only ho3 (by simp; exact Ne.symm hlm), ?_, ownsRow_only hw2.drew ho3 (fun g hg => by simp; rintro rfl; exact hwm hg), hr.1, by simp; omega, ?_⟩, ?_, ?_⟩
    · have : (fun n => if n = (k : Int) then some b else lastOf W n) = lastOf (W ++ [(k, b)]) := by funext n; rw [lastOf_snoc]
      rw [← this]; exact hm3
    · intro x hx
      simp only [List.mem_append, List.mem_singleton] at hx
      rcases hx with hx | rfl
      · exact hr.2.2 x hx
      · exact h1
    · rw [hF]
      refine (O1.trans ho2.drew (H := p :: lb :: mb :: wv.ownBlock.toList) (by simp) (fun x hx _ => hx)).trans ho3 (fun x hx => hx) (by simp)
    · intro x hx
      rw [hF]
      simp only [List.mem_cons] at hx ⊢
      rcases hx with h | h | h | h
      · exact .inl (.inl h)
      · exact .inl (.inr (.inl h))
      · exact .inl (.inr (.inr (.inl h)))
      · rcases hv2 x h with h | h
        · exact .inl (.inr (.inr (.inr h)))
        · right
          have := O1.size
          omega

/-- Write, whatever it is given -/
theorem write_any (w : World) (p : Nat) (F : List Nat) (L : Ls) (W : Ws) (at_ : Int) (b : Bk) (h : StoreAt w p F L W) :
    Calls Try.prog 43 #[.pointer (some ⟨p, 0, none⟩), .int .i64 at_, .agg b.cells] w fun e w' => e = .returned (.int .i64 (wrE L W at_)) ∧ Moved w w' p F L (wrW L W at_ b) := by
  by_cases hr : 0 ≤ at_ ∧ at_ < L.length
  · by_cases h2 : 4096 ≤ W.length
    · have e1 : wrE L W at_ = 10 := by unfold wrE; rw [if_pos hr, if_pos h2]
      have e2 : wrW L W at_ b = W := by unfold wrW; rw [e1]; rfl
      rw [e1, e2]
      exact (write_full w p F L W at_ b h hr.1 hr.2 h2).mono fun e w' ⟨he, ho⟩ => ⟨he, Moved.refl h ho⟩
    · have e1 : wrE L W at_ = 0 := by unfold wrE; rw [if_pos hr, if_neg h2]
      obtain ⟨k, rfl⟩ := Int.eq_ofNat_of_zero_le hr.1
      have e2 : wrW L W k b = W ++ [(k, b)] := by unfold wrW; rw [e1]; rfl
      rw [e1, e2]
      exact write_yes w p F L W k b h (by omega) (by omega)
  · have e1 : wrE L W at_ = 2 := by unfold wrE; rw [if_neg hr]
    have e2 : wrW L W at_ b = W := by unfold wrW; rw [e1]; rfl
    rw [e1, e2]
    exact (write_no w p F L W at_ b h hr).mono fun e w' ⟨he, ho⟩ => ⟨he, Moved.refl h ho⟩
end Go.Proofs.Ytkempjcdapfopaa
