/- A batch as bytes (batch.Put), by contract. Conditions: its lines lie in memory as 'LinesAt' says. -/
import Derived.Test.YtkempjcdapfopaaOwnP
import Derived.Test.YtkempjcdapfopaaSumW
import Derived.Deep.RegionHeld3
import Derived.Deep.RegionLaw
import Derived.Deep.AppendLies
namespace Go.Proofs.Ytkempjcdapfopaa
open Go.RowKit
attribute [local go_sem ↓] Go.wp_at_zero Go.wp_at_succ

theorem run_buildSlice32_2 (k : IntKind) (a b : Int) (w : World) : (buildSliceR 32 2 #[(0, .int k a), (1, .int k b)]).run Try.prog w = .ok (.slice (some ⟨w.heap.size, 0, none⟩) 2 2) (w.alloc (.cells #[.int k a, .int k b] 5)) := by kernel_rfl
attribute [local go_sem] run_buildSlice32_2
/-- a line's bytes, a batch's without its sum, a batch's -/
def enc1 (x : Int × Int) : List Int := [x.1] ++ le x.2 8
def headL (s e : Int) : List Int := [76, 66] ++ le s 4 ++ le e 4
def bodyL (s e : Int) (l : List (Int × Int)) : List Int := headL s e ++ [(l.length : Int)] ++ l.flatMap enc1
def putL (s e : Int) (l : List (Int × Int)) : List Int := bodyL s e l ++ le (sumF (bodyL s e l)) 4
theorem enc1_len (x : Int × Int) : (enc1 x).length = 9 := by simp [enc1, le_len]
theorem encs_len (l : List (Int × Int)) : (l.flatMap enc1).length = 9 * l.length := by
  induction l with
  | nil => rfl
  | cons x l ih => rw [List.flatMap_cons, List.length_append, ih, enc1_len, List.length_cons]; omega
theorem headL_len (s e : Int) : (headL s e).length = 10 := by simp [headL, le_len]
theorem bodyL_len (s e : Int) (l : List (Int × Int)) : (bodyL s e l).length = 11 + 9 * l.length := by
  simp only [bodyL, List.length_append, headL_len, encs_len, List.length_singleton]
theorem okLine_in {x : Int × Int} (h : okLine x = true) : (1 ≤ x.1 ∧ x.1 ≤ 7) ∧ x.2 ≠ 0 ∧ -1125899906842624 ≤ x.2 ∧ x.2 ≤ 1125899906842624 := by
  simp [okLine] at h
  omega
theorem bodyL_bytes (s e : Int) (l : List (Int × Int)) (hl : l.length ≤ 64) (hok : ∀ x ∈ l, okLine x = true) : ∀ z ∈ bodyL s e l, 0 ≤ z ∧ z < 256 := by
  intro z hz
  simp only [bodyL, headL, enc1, List.mem_append, List.mem_cons, List.mem_flatMap, List.not_mem_nil, or_false] at hz
  rcases hz with (((((rfl | rfl) | h) | h) | rfl) | ⟨x, hx, rfl | h⟩)
  · omega
  · omega
  · exact le_bytes _ _ _ h
  · exact le_bytes _ _ _ h
  · omega
  · have := okLine_in (hok x hx); omega
  · exact le_bytes _ _ _ h
theorem bchk_ok {s e : Int} {l : List (Int × Int)} (h : bchk s e l = 0) : (0 ≤ s ∧ s ≤ 2147483647 ∧ 0 ≤ e ∧ e ≤ 2147483647) ∧ l.length ≤ 64 ∧ ∀ x ∈ l, okLine x = true := by
  unfold bchk at h
  by_cases hr : 0 ≤ s ∧ s ≤ 2147483647 ∧ 0 ≤ e ∧ e ≤ 2147483647
  · rw [if_pos hr] at h
    refine ⟨hr, ?_⟩
    by_cases h0 : l.length = 0
    · have : l = [] := List.length_eq_zero_iff.1 h0
      subst this
      simp
    · rw [if_neg h0] at h
      unfold chkL at h
      by_cases h1 : 64 < l.length
      · rw [if_pos h1] at h; cases h
      · rw [if_neg h1, if_neg h0] at h
        by_cases h2 : l.all okLine = true ∧ sumL l = 0
        · refine ⟨by omega, ?_⟩
          have := h2.1
          rw [List.all_eq_true] at this
          exact this
        · rw [if_neg h2] at h; cases h
  · rw [if_neg hr] at h; cases h

/-- what Put comes to -/
def PutOk (w : World) (s e : Int) (l : List (Int × Int)) (en : Ending) (w' : World) : Prop := ∃ v' : Value, en = .returned (.tuple #[v', .int .i64 0]) ∧ OwnB w w' v' (putL s e l)

set_option maxRecDepth 100000 in
set_option maxHeartbeats 1600000 in
theorem bput_bad (w : World) (B : Nat) (s e : Int) (v : Value) (l : List (Int × Int)) (h : LinesAt w B v l) (hB : B ≤ w.heap.size) (hl : l.length ≤ 1000000) (hc : bchk s e l ≠ 0) :
    Calls Try.prog 30 #[.agg #[.int .i64 s, .int .i64 e, v]] w fun e' w' => e' = .returned (.tuple #[.slice none 0 0, .int .i64 (bchk s e l)]) ∧ Only [] w w' := by
  have HV := hide h
  obtain ⟨A, c, rfl, h⟩ := h
  clear h
  have hq : (bchk s e l == 0) = false := by simp [hc]
  clear hc
  generalize hr : bchk s e l = r at hq
  have HR := hide hr
  clear hr
  go_enter Try.func30, Try.ntmps30
  go_wp2_with fail
  have ob : Only [] w (w.alloc (Obj.cells #[.int .i64 s, .int .i64 e, .slice A l.length c] 65)) := (Only.refl [] w).alloc _
  refine (bcheck_any _ B s e _ l (HV.out.only ob hB (by simp)) (by have := ob.size; omega) (by omega)).mono ?_
  rintro en w2 ⟨rfl, ho2⟩
  rw [HR.out]
  have HO := hide (ob.new ho2 (by simp))
  clear ob ho2
  go_wp2
  go_ret2
  exact ⟨rfl, HO.out⟩

set_option maxRecDepth 100000 in
set_option maxHeartbeats 3200000 in
theorem bput_ok (w : World) (B : Nat) (s e : Int) (v : Value) (l : List (Int × Int)) (h : LinesAt w B v l) (hB : B ≤ w.heap.size) (hc : bchk s e l = 0) :
    Calls Try.prog 30 #[.agg #[.int .i64 s, .int .i64 e, v]] w (PutOk w s e l) := by
  obtain ⟨i0, hi0, hz0, hz1, hz2⟩ := info_parts info5
  have HV := hide h
  obtain ⟨A, c, rfl, h⟩ := h
  clear h
  have hcc := bchk_ok hc
  obtain ⟨⟨hs0, hs1, he0, he1⟩, hl, hok⟩ := hcc
  have HC := hide (And.intro hc hok)
  clear hc hok
  go_enter Try.func30, Try.ntmps30
  go_wp2_with fail
  have ob : Only [] w (w.alloc (Obj.cells #[.int .i64 s, .int .i64 e, .slice A l.length c] 65)) := (Only.refl [] w).alloc _
  refine (bcheck_any _ B s e _ l (HV.out.only ob hB (by simp)) (by have := ob.size; omega) (by omega)).mono ?_
  rintro en w2 ⟨rfl, ho2⟩
  rw [HC.out.1]
  have hX2 := (Blk.new w 65 #[.int .i64 s, .int .i64 e, .slice A l.length c]).only ho2 (by simp)
  have hV2 := HV.out.only (ob.new ho2 (by simp)) hB (by simp)
  have hB2 : B ≤ w2.heap.size := by have := (ob.new ho2 (by simp)).size; omega
  have h02 := hX2.lt
  have HO := hide (And.intro (ob.new ho2 (by simp)) (And.intro hX2 hV2))
  clear ob ho2 hV2
  have z0 : w2.cell? ⟨w.heap.size, 0, none⟩ = some (.int .i64 s) := by rw [hX2.cell]; rfl
  have z1 : w2.cell? ⟨w.heap.size, 1, none⟩ = some (.int .i64 e) := by rw [hX2.cell]; rfl
  have z2 : w2.cell? ⟨w.heap.size, 2, none⟩ = some (.slice A l.length c) := by rw [hX2.cell]; rfl
  clear hX2
  have hw2 : OwnB w2 (w2.alloc (Obj.cells #[.int .u8 76, .int .u8 66] 5)).drew (.slice (some ⟨w2.heap.size, 0, none⟩) 2 2) [76, 66] := (OwnB.made (Only.refl [] w2) [76, 66] 2 rfl (by decide) _ rfl).drew
  go_wp2
  go_region_held3 (fun w' => w'.cell? ⟨w.heap.size, 0, none⟩ = some (.int .i64 s) ∧ w'.cell? ⟨w.heap.size, 1, none⟩ = some (.int .i64 e))
    (first
      | (exact ⟨by rw [hb4.cell]; rfl, by rw [hb4.cell]; rfl⟩)
      | (exact ⟨by rw [hb3.cell]; rfl, by rw [hb3.cell]; rfl⟩)
      | go_keep)
    (first
      | (go_at_call 55
         ((with_reducible refine (put55_4 w2 _ _ [76, 66] s (by omega) (by omega) hw2 (by decide)).mono ?_))
         rintro e3 w3 ⟨v3, rfl, hw3, ho3⟩
         have hb3 := HO.out.2.1.only ho3 (by simp))
      | (go_at_call 55
         ((with_reducible refine (put55_4 w2 _ _ _ e (by omega) (by omega) hw3 (by simp [le_len])).mono ?_))
         rintro e4 w4 ⟨v4, rfl, hw4, ho4⟩
         have hb4 := HO.out.2.1.only ho4 (by simp)))
  have hm : OwnB w2 w4 v4 (headL s e) := hw4
  have hX4 := HO.out.2.1.only ho4 (by simp)
  have y2 : w4.cell? ⟨w.heap.size, 2, none⟩ = some (.slice A l.length c) := by rw [hX4.cell]; rfl
  have hml := headL_len s e
  clear hw2 hw3 ho3 hb3 hw4 hb4 hX4 z0 z1 z2
  generalize hgm : headL s e = m at *
  have HGM := hide hgm
  clear hgm
  obtain ⟨ao4, c4, rfl⟩ := ownsRow_val hm.1
  have l4 := ho4.size
  have HM := hide (And.intro hm (And.intro ho4 hml))
  clear hm ho4 hml
  go_wp2_with (first
    | (at_builtin; refine wpList_append_lies _ rfl _ _ 32 rfl w2.heap.size 5 i0 (.int .u8 0) 1 1 Try.underlying32 hi0 hz0 hz1 hz2 rfl (by decide) _ m.length (byV m) rfl (HM.out.1.1.alloc _) ⟨w4.heap.size, 0, none⟩ 1 1 [.int .u8 (l.length : Int)] rfl rfl
         (World.news_of_block (cs := #[.int .u8 (l.length : Int)]) (t := 5) (fr := (0, 0)) (heap_alloc_new _ _)) (fun u hu => by simp at hu; subst hu; rfl) (by decide) (by have := HM.out.2.2; simp only [maxLen]; omega) (by have := HM.out.2.2; omega) (by simp; omega) (w4.heap.size + 1) (by simp) ?_
       intro gg cap w8 hown8 hgrow hat hlt8
       have H8 := hide (And.intro hown8 (And.intro hgrow hat))
       have ho8 := hide ((HM.out.2.1.alloc (Obj.cells #[.int .u8 (l.length : Int)] 5)).grown hgrow (fun k hk => .inr (HM.out.1.1.lt k hk).1))
       have hX8 := HO.out.2.1.only ho8.out (by simp)
       have x2 : w8.cell? ⟨w.heap.size, 2, none⟩ = some (.slice A l.length c) := by rw [hX8.cell]; rfl
       clear hown8 hgrow hat hlt8 hX8))
  have h9 : OwnB w2 w8 (.slice (some ⟨gg, 0, none⟩) (m.length + 1) cap) (m ++ [(l.length : Int)]) := by
    refine ⟨?_, ho8.out⟩
    have h8 := H8.out.1
    rw [byV_app, List.length_append, List.length_singleton]
    exact h8
  obtain ⟨m2, hm2⟩ : ∃ m2, m2 = m ++ [(l.length : Int)] := ⟨_, rfl⟩
  have hm2l : m2.length = m.length + 1 := by rw [hm2, List.length_append, List.length_singleton]
  rw [← hm2] at h9
  have H9 := hide (And.intro h9 (And.intro hm2 hm2l))
  clear h9 hm2 hm2l x2
  have hml2 : m2.length = 11 := by have := H9.out.2.2; have := HM.out.2.2; omega
  have h9e : OwnB w2 w8 (.slice (some ⟨gg, 0, none⟩) (m.length + 1) cap) m2 := H9.out.1
  go_loopw [30, 5] (fun i v wr => ∃ k : Nat, k ≤ l.length ∧ i = .int .i64 k ∧ OwnB w2 wr v (m2 ++ (l.take k).flatMap enc1)) (fun i _ _ => l.length - (intOf i).toNat)
  case atStart => exact ⟨0, Nat.zero_le _, rfl, by simpa using h9e⟩
  case round =>
    obtain ⟨k, hk, rfl, hown⟩ := hrel
    obtain ⟨q, hq⟩ : ∃ q, q = m2 ++ (l.take k).flatMap enc1 := ⟨_, rfl⟩
    rw [← hq] at hown
    have hql : q.length = 11 + 9 * k := by rw [hq, List.length_append, encs_len, hml2, List.length_take]; omega
    obtain ⟨ao', cv', rfl⟩ := ownsRow_val hown.1
    have hsz := hown.2.size
    have HJ := hide (And.intro hown hq)
    clear hown hq h9e hml2
    by_cases hlt : k < l.length
    · obtain ⟨A', c', hv, hz, ha⟩ := HO.out.2.2
      injection hv with hA _ hcc
      subst hA
      subst hcc
      obtain ⟨b, o, rfl, hbB, hc⟩ := ha (by omega)
      have hbl : wr.heap[b]? = w2.heap[b]? := HJ.out.1.2.block b (by omega) (by simp)
      have c0 : wr.cell? ⟨b, o + k * 2, none⟩ = some (.int .i64 l[k].1) := by rw [← (hc k hlt).1]; exact World.cell?_of_block hbl
      have c1 : wr.cell? ⟨b, o + k * 2 + 1, none⟩ = some (.int .i64 l[k].2) := by rw [← (hc k hlt).2]; exact World.cell?_of_block hbl
      have hxk := okLine_in (HC.out.2 _ (List.getElem_mem hlt))
      have htk : l.take (k + 1) = l.take k ++ [l[k]] := List.take_succ_eq_append_getElem hlt
      have lb : b < wr.heap.size := by omega
      generalize l[k] = x at *
      obtain ⟨x1, x2⟩ := x
      simp only at *
      have hx0 := hxk.1.1
      have hx1 := hxk.1.2
      have hy0 := hxk.2.2.1
      have hy1 := hxk.2.2.2
      have HS := hide htk
      clear htk hc hz ha hbl hxk
      have hne : ∀ g, (Value.slice ao' q.length cv').ownBlock = some g → g < wr.heap.size := fun g hg => (HJ.out.1.1.lt g hg).2
      have HNE := hide hne
      have hql0 : q.length ≤ 1000 := by omega
      have HQ := hide hql
      clear hne hql
      go_upto_region 9 with fail
      have hw8 : IntKind.u8.wrap x1 = x1 := IntWalk.u8_in _ (by omega)
      go_region_law
        (first
          | (refine step_append_lies _ (by rfl) _ _ _ (by rfl) w2.heap.size 5 i0 (.int .u8 0) 1 1 Try.underlying32 hi0 hz0 hz1 hz2 (by rfl) (by decide) (.slice ao' q.length cv') q.length (byV q) (by rfl) (((HJ.out.1.1.alloc _).alloc _).drew)
              ⟨wr.heap.size + 1, 0, none⟩ 1 1 [.int .u8 x1] (by rfl) (by rfl) (World.news_of_block (cs := #[.int .u8 x1]) (t := 5) (fr := (0, 0)) (heap2 _ _ _)) (fun u hu => by simp at hu; subst hu; rfl)
              (by decide) (by simp only [maxLen]; omega) (by omega) (by simp; omega) (wr.heap.size + 2) (by simp) ?_; intro gk capk w9 hown9 hgrow9 hat9 hlt9
             have hK9 : w9.cell? ⟨wr.heap.size, 1, none⟩ = some (.int .i64 x2) := by rw [hgrow9.cell_far _ (by simp; omega) (fun e => by have := HNE.out _ e.symm; simp at this)]; go_simp
             have ho9 : OwnB w2 w9 (.slice (some ⟨gk, 0, none⟩) (q.length + 1) capk) (q ++ [x1]) := by
               refine ⟨?_, (((HJ.out.1.2.alloc _).alloc _).drew).grown hgrow9 (fun k hk => .inr (HJ.out.1.1.lt k hk).1)⟩
               rw [byV_app, List.length_append, List.length_singleton]
               exact hown9
             clear hown9 hgrow9 hat9 hlt9)
          | (go_simp; go_at_call 56
             ((with_reducible refine (put56_8 w2 _ _ _ x2 (by omega) (by omega) ho9 (by simp; omega)).mono ?_))
             rintro e10 w10 ⟨v10, rfl, hw10, ho10⟩))
      all_goals
        go_wp2
        go_roundw
        case rel =>
          refine ⟨k + 1, by omega, by go_num, ?_⟩
          rw [HS.out, List.flatMap_append, ← List.append_assoc, ← HJ.out.2]
          simpa [enc1] using hw10
        case measure => simp [intOf]; omega
    · have hkk : k = l.length := by omega
      subst hkk
      have hqb : q = bodyL s e l := by rw [HJ.out.2, List.take_length, H9.out.2.1, ← HGM.out]; rfl
      have hbyt : ∀ z ∈ q, 0 ≤ z ∧ z < 256 := by rw [hqb]; exact bodyL_bytes s e l hl HC.out.2
      have hBy := HJ.out.1.bytes hbyt
      have hsum := sumF_in q
      have hq3 : q.length ≤ 1000 := by omega
      have HQ := hide (And.intro hqb hql)
      have HBy := hide hBy
      clear hbyt hBy hqb hql
      go_wp2_with fail
      refine (sum_any _ _ _ q HBy.out (Nat.le_refl _) (by omega)).mono ?_
      rintro e5 w5 ⟨rfl, ho5⟩
      have hown5 := HJ.out.1.only ho5
      have HO5 := hide ho5
      have hs0' := hsum.1
      have hs1' := hsum.2
      clear ho5 hsum
      generalize hsq : sumF q = sq at *
      have HSQ := hide hsq
      clear hsq
      go_wp2_with fail
      refine (put57_4 w2 _ _ q sq (by omega) (by omega) hown5 (by omega)).mono ?_
      rintro e6 w6 ⟨v6, rfl, hw6, ho6⟩
      have H6 := hide hw6
      clear hw6 ho6 hown5
      go_wp2
      go_ret2
      refine ⟨v6, rfl, ?_⟩
      have h := H6.out.base HO.out.1
      unfold putL
      rw [← HQ.out.1, HSQ.out]
      exact h
end Go.Proofs.Ytkempjcdapfopaa
