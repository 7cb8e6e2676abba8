/- The document's store: Write, Sync, Crash, Read, by contract. Conditions: the store lies in memory as 'RefAt' says. -/
import Derived.Test.YtkempjcdapfopaaNewW
namespace Go.Proofs.Ytkempjcdapfopaa
open Go.RowKit
attribute [local go_sem ↓] Go.wp_at_zero Go.wp_at_succ

theorem RefAt.head {w : World} {p : Nat} {F : List Nat} {L : Ls} {W : Ws} (h : RefAt w p F L W) : ∃ lb A c, w.cell? ⟨p, 0, none⟩ = some (.slice (some ⟨lb, 0, none⟩) L.length L.length) ∧ w.cell? ⟨p, 1, none⟩ = some (.slice A W.length c) ∧ p < w.heap.size := by
  obtain ⟨lb, wv, _, hp, _, hw, _⟩ := h
  obtain ⟨A, c, rfl⟩ := ownsRow_val hw
  exact ⟨lb, A, c, by rw [hp.cell]; rfl, by rw [hp.cell]; rfl, hp.lt⟩

set_option maxRecDepth 100000 in
theorem writeR_no (w : World) (p : Nat) (F : List Nat) (L : Ls) (W : Ws) (at_ : Int) (b : Bk) (h : RefAt w p F L W) (h0 : ¬ (0 ≤ at_ ∧ at_ < L.length)) :
    Calls Try.prog 19 #[.pointer (some ⟨p, 0, none⟩), .int .i64 at_, .agg b.cells] w fun e w' => e = .returned (.int .i64 2) ∧ Only [] w w' := by
  obtain ⟨lb, A, c, c0, c1, lp⟩ := h.head
  clear h
  by_cases hn : at_ < 0
  · go_enter Try.func19, Try.ntmps19
    go_wp2
    go_ret
    exact ⟨rfl, (Only.refl [] w).alloc _⟩
  · have hge : (L.length : Int) ≤ at_ := by omega
    have hz : 0 ≤ at_ := by omega
    clear h0
    go_enter Try.func19, Try.ntmps19
    go_wp2
    go_ret
    exact ⟨rfl, (Only.refl [] w).alloc _⟩
set_option maxRecDepth 100000 in
theorem writeR_full (w : World) (p : Nat) (F : List Nat) (L : Ls) (W : Ws) (at_ : Int) (b : Bk) (h : RefAt w p F L W) (h0 : 0 ≤ at_) (h1 : at_ < L.length) (h2 : 4096 ≤ W.length) :
    Calls Try.prog 19 #[.pointer (some ⟨p, 0, none⟩), .int .i64 at_, .agg b.cells] w fun e w' => e = .returned (.int .i64 10) ∧ Only [] w w' := by
  obtain ⟨lb, A, c, c0, c1, lp⟩ := h.head
  clear h
  have h3 : (4096 : Int) ≤ (W.length : Int) := by omega
  go_enter Try.func19, Try.ntmps19
  go_wp2
  go_ret
  exact ⟨rfl, (Only.refl [] w).alloc _⟩

set_option maxRecDepth 100000 in
set_option maxHeartbeats 1600000 in
theorem writeR_yes (w : World) (p : Nat) (F : List Nat) (L : Ls) (W : Ws) (k : Nat) (b : Bk) (h : RefAt w p F L W) (h1 : k < L.length) (h2 : W.length < 4096) :
    Calls Try.prog 19 #[.pointer (some ⟨p, 0, none⟩), .int .i64 k, .agg b.cells] w fun e w' => e = .returned (.int .i64 0) ∧ MovedR w w' p F L (W ++ [(k, b)]) := by
  obtain ⟨lb, wv, hF, hp, hl, hown, hr⟩ := h
  obtain ⟨A, c, rfl⟩ := ownsRow_val hown
  obtain ⟨i0, hi0, hz0, hz1, hz2⟩ := info_parts info104
  have lg := hp.lt
  have hw0 := own_blk_ne hown hp (by decide)
  have hlw := own_blk_ne hown hl (by decide)
  have hlp := hl.ne_ hp (by decide)
  have c0 : w.cell? ⟨p, 0, none⟩ = some (.slice (some ⟨lb, 0, none⟩) L.length L.length) := by rw [hp.cell]; rfl
  have hK : w.cell? ⟨p, 1, none⟩ = some (.slice A W.length c) := by rw [hp.cell]; rfl
  have hfz : w.frozen? ⟨p, 1, none⟩ = false := hp.frozen 1
  have h1' : ¬ ((L.length : Int) ≤ (k : Int)) := by omega
  have h2' : ¬ ((4096 : Int) ≤ (W.length : Int)) := by omega
  have HB := hide (And.intro hp (And.intro hl (And.intro hF hr)))
  clear hp hl hF hr
  go_enter Try.func19, Try.ntmps19
  go_wp2_with fail
  go_region_law
    ((refine step_append_lies _ (by rfl) _ _ _ (by rfl) 0 104 i0 _ 65 72 Try.underlying42 hi0 hz0 hz1 hz2 (by simp [Value.cells]) (by omega) (.slice A W.length c) W.length (W.flatMap (fun x => (wc x).toList)) (by rfl) (((hown.alloc _).alloc _).drew)
        ⟨w.heap.size + 1, 0, none⟩ 1 1 (wcells k b).toList (by rfl) (by simp) (World.news_of_block (cs := wcells k b) (t := 104) (fr := (0, 0)) (heap2 _ _ _)) (ones_list _ (ones_wcells k b))
        (by omega) (by simp only [maxLen]; omega) (by omega) (by simp) (w.heap.size + 2) (by simp) ?_; intro gg cap w1 hown1 hgrow hat hlt
      have hK1 : w1.cell? ⟨p, 1, none⟩ = some (.slice A W.length c) := by rw [hgrow.cell_far _ (by simp; omega) (Ne.symm hw0)]; go_simp
      have hF1 : w1.frozen? ⟨p, 1, none⟩ = false := by rw [hgrow.frozen_far _ (by simp; omega) (Ne.symm hw0)]; go_simp))
  all_goals
    go_wp2
    go_ret
    have hP := pushed_end (o := 1) HB.out.1 (by decide) hw0 hown1 hgrow hat
    obtain ⟨v', ho, hov, hbv, hv⟩ := hP
    refine ⟨rfl, p :: lb :: v'.ownBlock.toList, ⟨lb, v', rfl, by simpa using hbv, HB.out.2.1.only ho (by simp only [List.mem_cons, Option.mem_toList, not_or]; exact ⟨hlp, hlw⟩), ?_, HB.out.2.2.2.1, by simp; omega, ?_⟩, ?_, ?_⟩
    · rw [← flat_snoc]
      simpa [wc] using hov
    · intro x hx
      simp only [List.mem_append, List.mem_singleton] at hx
      rcases hx with hx | hx
      · exact HB.out.2.2.2.2.2 x hx
      · rw [hx]; exact h1
    · rw [HB.out.2.2.1]
      exact ho.mono (by
        intro x hx
        simp only [List.mem_cons] at hx ⊢
        rcases hx with h | h
        · exact .inl h
        · exact .inr (.inr h))
    · intro x hx
      rw [HB.out.2.2.1]
      simp only [List.mem_cons, Option.mem_toList] at hx ⊢
      rcases hx with h | h | h
      · exact .inl (.inl h)
      · exact .inl (.inr (.inl h))
      · rcases hv with h' | ⟨g, h', hg⟩
        · left; right; right; rw [← h']; exact h
        · right; rw [h'] at h; injection h with h; omega

/-- Write of the document's store, whatever it is given -/
theorem writeR_any (w : World) (p : Nat) (F : List Nat) (L : Ls) (W : Ws) (at_ : Int) (b : Bk) (h : RefAt w p F L W) :
    Calls Try.prog 19 #[.pointer (some ⟨p, 0, none⟩), .int .i64 at_, .agg b.cells] w fun e w' => e = .returned (.int .i64 (wrE L W at_)) ∧ MovedR w w' p F L (wrW L W at_ b) := by
  by_cases hr : 0 ≤ at_ ∧ at_ < L.length
  · by_cases h2 : 4096 ≤ W.length
    · have e1 : wrE L W at_ = 10 := by unfold wrE; rw [if_pos hr, if_pos h2]
      have e2 : wrW L W at_ b = W := by unfold wrW; rw [e1]; rfl
      rw [e1, e2]
      exact (writeR_full w p F L W at_ b h hr.1 hr.2 h2).mono fun e w' ⟨he, ho⟩ => ⟨he, MovedR.refl h ho⟩
    · have e1 : wrE L W at_ = 0 := by unfold wrE; rw [if_pos hr, if_neg h2]
      obtain ⟨k, rfl⟩ := Int.eq_ofNat_of_zero_le hr.1
      have e2 : wrW L W k b = W ++ [(k, b)] := by unfold wrW; rw [e1]; rfl
      rw [e1, e2]
      exact writeR_yes w p F L W k b h (by omega) (by omega)
  · have e1 : wrE L W at_ = 2 := by unfold wrE; rw [if_neg hr]
    have e2 : wrW L W at_ b = W := by unfold wrW; rw [e1]; rfl
    rw [e1, e2]
    exact (writeR_no w p F L W at_ b h hr).mono fun e w' ⟨he, ho⟩ => ⟨he, MovedR.refl h ho⟩

/-- what a sync and a crash leave -/
theorem moved_dry {w w' : World} {p lb : Nat} {wv : Value} {L L' : Ls} (hlen : L'.length = L.length) (hle : L.length ≤ 4096) (hp : Blk w' p 44 #[.slice (some ⟨lb, 0, none⟩) L.length L.length, .slice none 0 0]) (hl : Blk w' lb 106 (flat hc L')) (ho : Only [p, lb] w w') :
    MovedR w w' p (p :: lb :: wv.ownBlock.toList) L' [] := by
  refine ⟨[p, lb], ⟨lb, .slice none 0 0, rfl, by rw [hlen]; exact hp, hl, ⟨rfl, .inl ⟨rfl, rfl⟩⟩, by rw [hlen]; exact hle, by simp, by simp⟩, ho.mono (fun x hx => by simp at hx ⊢; rcases hx with h | h; exact .inl h; exact .inr (.inl h)), fun x hx => .inl (by simp at hx ⊢; rcases hx with h | h; exact .inl h; exact .inr (.inl h))⟩

theorem own_row0 {w : World} {e : Nat} {v : Value} {W : Ws} (h : w.ownsRow 0 e 65 v W.length (W.flatMap (fun x => (wc x).toList))) :
    ∃ A cap, v = .slice A W.length cap ∧ (0 < W.length → ∃ g cur, A = some ⟨g, 0, none⟩ ∧ Blk w g e cur ∧ W.length ≤ cap ∧ cur.size = cap * 65 ∧ ∀ k (hk : k < W.length), cur.extract (k * 65) (k * 65 + 65) = wc W[k]) := by
  rcases Nat.eq_zero_or_pos W.length with h0 | hpos
  · obtain ⟨A, c, hv⟩ := ownsRow_val h
    exact ⟨A, c, hv, fun hp => by omega⟩
  · obtain ⟨g, cap, cur, hv, hb, hle, hsz, hx⟩ := own_row h rfl hpos
    exact ⟨_, cap, hv, fun _ => ⟨g, cur, rfl, hb, hle, hsz, hx⟩⟩

set_option maxRecDepth 100000 in
set_option maxHeartbeats 1600000 in
theorem syncR_any (w : World) (p : Nat) (F : List Nat) (L : Ls) (W : Ws) (h : RefAt w p F L W) :
    Calls Try.prog 21 #[.pointer (some ⟨p, 0, none⟩)] w fun e w' => e = .returned (.tuple #[]) ∧ MovedR w w' p F (settleL L W (fun _ => 1) 0) [] := by
  obtain ⟨lb, wv, rfl, hp, hl, hown, hr⟩ := h
  obtain ⟨A, cap, rfl, hA⟩ := own_row0 hown
  have c0 : w.cell? ⟨p, 0, none⟩ = some (.slice (some ⟨lb, 0, none⟩) L.length L.length) := by rw [hp.cell]; rfl
  have c1 : w.cell? ⟨p, 1, none⟩ = some (.slice A W.length cap) := by rw [hp.cell]; rfl
  have lp := hp.lt
  have hWm : W.length ≤ 4096 := hr.2.1
  have HH := hide (And.intro hp (And.intro hl (And.intro hr hA)))
  clear hp hl hr hA hown
  go_enter Try.func21, Try.ntmps21
  go_wp2
  go_loopw [9] (fun i wr => ∃ k : Nat, k ≤ W.length ∧ i = .int .i64 k ∧ Blk wr lb 106 (flat hc (settleL L (W.take k) (fun _ => 1) 0)) ∧ Only [lb] w wr) (fun i _ => W.length - (intOf i).toNat)
  case atStart => exact ⟨0, Nat.zero_le _, rfl, by simpa [settleL] using HH.out.2.1, Only.refl _ _⟩
  case round =>
    obtain ⟨k, hk, rfl, hlw, ho⟩ := hrel
    have hdp := HH.out.1.ne_ HH.out.2.1 (by decide)
    have hbp := HH.out.1.only ho (by simp; exact hdp)
    have lp2 := hbp.lt
    have ll2 := hlw.lt
    by_cases hlt : k < W.length
    · obtain ⟨g, cur, rfl, hg, hle, hsz, hext⟩ := HH.out.2.2.2 (by omega)
      have hgr : Blk wr g 104 cur := hg.only ho (by simp; exact hg.ne_ HH.out.2.1 (by decide))
      have hr : row wr g (k * 65) 65 = some (wcells W[k].1 W[k].2) := by
        rw [hgr.row _ _ (by have := Nat.mul_le_mul_right 65 (show k + 1 ≤ cap by omega); omega), hext k hlt]; rfl
      have lg := hgr.lt
      have hkl := HH.out.2.2.1.2.2 W[k] (List.getElem_mem hlt)
      have d0 : wr.cell? ⟨p, 0, none⟩ = some (.slice (some ⟨lb, 0, none⟩) L.length L.length) := by rw [hbp.cell]; rfl
      have pl : canPut wr lb (W[k].1 * 65) 65 = true := hlw.canPut _ _ (by rw [size_flat size_hc, settleL_len]; omega)
      have hset := settleL_take hlt L (fun _ => 1)
      generalize W[k] = x at *
      obtain ⟨n, bk⟩ := x
      have HL := hide (And.intro hlw (And.intro ho (And.intro hset (And.intro hext hsz))))
      clear hgr hg hlw ho hset hbp hext hsz
      simp only at *
      go_wp2
      refine wp_tail 10 (by kernel_rfl) (by kernel_rfl) ?_
      simp only [List.take_succ_cons, List.take_zero, List.drop_succ_cons, List.drop_zero]
      repeat still_step
      refine wpStill_nil ?_
      go_wp2
      go_roundw
      case rel =>
        refine ⟨k + 1, by omega, by go_num, ?_, (((HL.out.2.1.put (.inl (by simp)) _ _).alloc _).drew)⟩
        have hb := (((HL.out.1.put_ (n * 65) (hcells bk false)).alloc (Obj.cells (wcells (n : Int) bk) 104)).drew)
        rw [show splice (flat hc (settleL L (W.take k) (fun _ => 1) 0)) (n * 65) (hcells bk false) = flat hc ((settleL L (W.take k) (fun _ => 1) 0).set n (bk, false)) from flat_set size_hc (by rw [settleL_len]; exact hkl) (bk, false)] at hb
        rw [HL.out.2.2.1]
        exact hb
      case measure => simp [intOf]; omega
    · have hkn : k = W.length := by omega
      subst hkn
      have fz : wr.frozen? ⟨p, 1, none⟩ = false := hbp.frozen 1
      have d1 : wr.cell? ⟨p, 1, none⟩ = some (.slice A W.length cap) := by rw [hbp.cell]; rfl
      have HL := hide (And.intro hlw (And.intro ho hbp))
      clear hlw ho hbp
      go_wp2
      go_end0
      have hb := HL.out.2.2.set_ 1 (.slice none 0 0)
      have hl2 := HL.out.1.far (p := ⟨p, 1, none⟩) (Ne.symm hdp) (.slice none 0 0)
      rw [List.take_length] at hl2
      exact ⟨rfl, moved_dry (settleL_len _ _ _ _) HH.out.2.2.1.1 (by simpa using hb) hl2 ((HL.out.2.1.mono (by simp)).setCell (.inl (by simp)) _)⟩

/-- the document's fate of a write that waits -/
def FateAt (w : World) (B : Nat) (A : Option Addr) (zs : List Int) : Prop :=
  (∀ z ∈ zs, 0 ≤ z ∧ z < 256) ∧ (0 < zs.length → ∃ b o, A = some ⟨b, o, none⟩ ∧ b < B ∧ ∀ j (hj : j < zs.length), w.cell? ⟨b, o + j, none⟩ = some (.int .u8 zs[j]))

set_option maxRecDepth 100000 in
set_option maxHeartbeats 3200000 in
theorem crashR_any (w : World) (p B : Nat) (F : List Nat) (L : Ls) (W : Ws) (v : Value) (zs : List Int) (h : RefAt w p F L W) (hv : Bytes w B v zs) (hB : B ≤ w.heap.size) (hF : ∀ x ∈ F, B ≤ x) :
    Calls Try.prog 22 #[.pointer (some ⟨p, 0, none⟩), v] w fun e w' => e = .returned (.tuple #[]) ∧ MovedR w w' p F (settleL L W (fateOf zs) 0) [] := by
  obtain ⟨lb, wv, rfl, hp, hl, hown, hr⟩ := h
  obtain ⟨A, cap, rfl, hA⟩ := own_row0 hown
  obtain ⟨Az, cz, rfl, hz, haz⟩ := hv
  have hBl : B ≤ lb := hF lb (by simp)
  have c0 : w.cell? ⟨p, 0, none⟩ = some (.slice (some ⟨lb, 0, none⟩) L.length L.length) := by rw [hp.cell]; rfl
  have c1 : w.cell? ⟨p, 1, none⟩ = some (.slice A W.length cap) := by rw [hp.cell]; rfl
  have lp := hp.lt
  have hWm : W.length ≤ 4096 := hr.2.1
  have HH := hide (And.intro hp (And.intro hl (And.intro hr hA)))
  have HZ := hide (And.intro hz haz)
  clear hp hl hr hA hown hz haz hF
  go_enter Try.func22, Try.ntmps22
  go_wp2
  go_loopw [12] (fun i wr => ∃ k : Nat, k ≤ W.length ∧ i = .int .i64 k ∧ Blk wr lb 106 (flat hc (settleL L (W.take k) (fateOf zs) 0)) ∧ Only [lb] w wr) (fun i _ => W.length - (intOf i).toNat)
  case atStart => exact ⟨0, Nat.zero_le _, rfl, by simpa [settleL] using HH.out.2.1, Only.refl _ _⟩
  case round =>
    obtain ⟨k, hk, rfl, hlw, ho⟩ := hrel
    have hdp := HH.out.1.ne_ HH.out.2.1 (by decide)
    have hbp := HH.out.1.only ho (by simp; exact hdp)
    have lp2 := hbp.lt
    have ll2 := hlw.lt
    by_cases hlt : k < W.length
    · obtain ⟨g, cur, rfl, hg, hle, hsz, hext⟩ := HH.out.2.2.2 (by omega)
      have hgr : Blk wr g 104 cur := hg.only ho (by simp; exact hg.ne_ HH.out.2.1 (by decide))
      have hr : row wr g (k * 65) 65 = some (wcells W[k].1 W[k].2) := by
        rw [hgr.row _ _ (by have := Nat.mul_le_mul_right 65 (show k + 1 ≤ cap by omega); omega), hext k hlt]; rfl
      have lg := hgr.lt
      have hkl := HH.out.2.2.1.2.2 W[k] (List.getElem_mem hlt)
      have d0 : wr.cell? ⟨p, 0, none⟩ = some (.slice (some ⟨lb, 0, none⟩) L.length L.length) := by rw [hbp.cell]; rfl
      have pl : canPut wr lb (W[k].1 * 65) 65 = true := hlw.canPut _ _ (by rw [size_flat size_hc, settleL_len]; omega)
      have hset := settleL_take hlt L (fateOf zs)
      generalize W[k] = x at *
      obtain ⟨n, bk⟩ := x
      simp only at *
      have HL := hide (And.intro hlw (And.intro ho (And.intro hset (And.intro hext hsz))))
      clear hgr hg hlw hset hbp hext hsz
      by_cases hkz : k < zs.length
      · obtain ⟨b, o, rfl, hb, hc⟩ := HZ.out.2 (by omega)
        have hlb : b < w.heap.size := by omega
        have hck : wr.cell? ⟨b, o + k, none⟩ = some (.int .u8 zs[k]) := by
          rw [← hc k hkz]
          exact World.cell?_of_block (ho.block b hlb (by simp; omega))
        have hzk := HZ.out.1 _ (List.getElem_mem hkz)
        have hf : fateOf zs k = zs[k] % 3 := by unfold fateOf; rw [if_pos hkz]; simp [List.getElem?_eq_getElem hkz]
        have z0 := hzk.1
        have z1 := hzk.2
        have lb2 : b < wr.heap.size := by have := ho.size; omega
        generalize zs[k] = z at *
        have HF := hide (And.intro hf ho)
        clear hc hzk hf ho
        by_cases hz1 : z % 3 = 1
        · have q1 : (z % 3 == 1) = true := by simp [hz1]
          go_wp2
          refine wp_tail 10 (by kernel_rfl) (by kernel_rfl) ?_
          simp only [List.take_succ_cons, List.take_zero, List.drop_succ_cons, List.drop_zero]
          repeat still_step
          refine wpStill_nil ?_
          go_wp2
          go_roundw
          case rel =>
            refine ⟨k + 1, by omega, by go_num, ?_, (((HL.out.2.1.put (.inl (by simp)) _ _).alloc _).drew)⟩
            have hb := (((HL.out.1.put_ (n * 65) (hcells bk false)).alloc (Obj.cells (wcells (n : Int) bk) 104)).drew)
            rw [show splice (flat hc (settleL L (W.take k) (fateOf zs) 0)) (n * 65) (hcells bk false) = flat hc ((settleL L (W.take k) (fateOf zs) 0).set n (bk, false)) from flat_set size_hc (by rw [settleL_len]; exact hkl) (bk, false)] at hb
            rw [HL.out.2.2.1, HF.out.1, hz1]
            exact hb
          case measure => simp [intOf]; omega
        · by_cases hz2 : z % 3 = 2
          · have q1 : (z % 3 == 1) = false := by simp [hz1]
            have q2 : (z % 3 == 2) = true := by simp [hz2]
            go_wp2
            refine wp_tail 8 (by kernel_rfl) (by kernel_rfl) ?_
            simp only [List.take_succ_cons, List.take_zero, List.drop_succ_cons, List.drop_zero]
            repeat still_step
            refine wpStill_nil ?_
            go_wp2
            go_roundw
            case rel =>
              refine ⟨k + 1, by omega, by go_num, ?_, (((HL.out.2.1.put (.inl (by simp)) _ _).alloc _).drew)⟩
              have hb := (((HL.out.1.put_ (n * 65) (hcells Bk.zero true)).alloc (Obj.cells (wcells (n : Int) bk) 104)).drew)
              rw [show splice (flat hc (settleL L (W.take k) (fateOf zs) 0)) (n * 65) (hcells Bk.zero true) = flat hc ((settleL L (W.take k) (fateOf zs) 0).set n (Bk.zero, true)) from flat_set size_hc (by rw [settleL_len]; exact hkl) (Bk.zero, true)] at hb
              rw [HL.out.2.2.1, HF.out.1, hz2]
              exact hb
            case measure => simp [intOf]; omega
          · have q1 : (z % 3 == 1) = false := by simp [hz1]
            have q2 : (z % 3 == 2) = false := by simp [hz2]
            have e : settle1 (settleL L (W.take k) (fateOf zs) 0) (n, bk) (z % 3) = settleL L (W.take k) (fateOf zs) 0 := by unfold settle1; rw [if_neg hz1, if_neg hz2]
            have HE := hide e
            clear e
            go_wp2
            go_roundw
            case rel =>
              refine ⟨k + 1, by omega, by go_num, ?_, HL.out.2.1.alloc _⟩
              rw [HL.out.2.2.1, HF.out.1, HE.out]
              exact HL.out.1.alloc _
            case measure => simp [intOf]; omega
      · have hf : fateOf zs k = 0 := by unfold fateOf; rw [if_neg hkz]
        have hkz' : (zs.length : Int) ≤ (k : Int) := by omega
        have HF := hide (And.intro hf ho)
        clear hf ho
        go_wp2
        go_roundw
        case rel =>
          refine ⟨k + 1, by omega, by go_num, ?_, HL.out.2.1.alloc _⟩
          rw [HL.out.2.2.1, HF.out.1]
          exact HL.out.1.alloc _
        case measure => simp [intOf]; omega
    · have hkn : k = W.length := by omega
      subst hkn
      have fz : wr.frozen? ⟨p, 1, none⟩ = false := hbp.frozen 1
      have d1 : wr.cell? ⟨p, 1, none⟩ = some (.slice A W.length cap) := by rw [hbp.cell]; rfl
      have HL := hide (And.intro hlw (And.intro ho hbp))
      clear hlw ho hbp
      go_wp2
      go_end0
      have hb := HL.out.2.2.set_ 1 (.slice none 0 0)
      have hl2 := HL.out.1.far (p := ⟨p, 1, none⟩) (Ne.symm hdp) (.slice none 0 0)
      rw [List.take_length] at hl2
      exact ⟨rfl, moved_dry (settleL_len _ _ _ _) HH.out.2.2.1.1 (by simpa using hb) hl2 ((HL.out.2.1.mono (by simp)).setCell (.inl (by simp)) _)⟩

theorem rd_some {L : Ls} {W : Ws} {k : Nat} {b : Bk} (hk : k < L.length) (h : lastOf W (k : Int) = some b) : rdB L W k = b ∧ rdE L W k = 0 := by
  have h0 : (0 : Int) ≤ k ∧ (k : Int) < L.length := by omega
  unfold rdB rdE
  rw [if_pos h0, if_pos h0, h]
  exact ⟨rfl, rfl⟩
theorem rd_none {L : Ls} {W : Ws} {k : Nat} {b : Bk} {t : Bool} (hk : k < L.length) (h : lastOf W (k : Int) = none) (hx : L[k]? = some (b, t)) : rdB L W k = (if t = true then Bk.zero else b) ∧ rdE L W k = (if t = true then 7 else 0) := by
  have h0 : (0 : Int) ≤ k ∧ (k : Int) < L.length := by omega
  unfold rdB rdE
  rw [if_pos h0, if_pos h0, h]
  simp [List.getD, hx]
theorem lastOf_take {W : Ws} {n : Nat} {x : Nat × Bk} (hx : W[n]? = some x) (k : Int) : lastOf (W.take (n + 1)) k = if k = (x.1 : Int) then some x.2 else lastOf (W.take n) k := by
  have hn : n < W.length := by
    rw [List.getElem?_eq_some_iff] at hx; exact hx.1
  rw [List.take_succ_eq_append_getElem hn]
  rw [List.getElem?_eq_getElem hn] at hx
  injection hx with hx
  rw [hx]
  exact lastOf_snoc _ _ _ _

set_option maxRecDepth 100000 in
theorem readR_no (w : World) (p : Nat) (F : List Nat) (L : Ls) (W : Ws) (at_ : Int) (h : RefAt w p F L W) (h0 : ¬ (0 ≤ at_ ∧ at_ < L.length)) :
    Calls Try.prog 26 #[.pointer (some ⟨p, 0, none⟩), .int .i64 at_] w fun e w' => e = .returned (.tuple #[.agg Bk.zero.cells, .int .i64 2]) ∧ Only [] w w' := by
  obtain ⟨lb, A, c, c0, c1, lp⟩ := h.head
  clear h
  by_cases hn : at_ < 0
  · go_enter Try.func26, Try.ntmps26
    go_wp2
    exact bodyPost_ret (results_cell_tmp (n := 64) rfl _ Try.underlying37 rfl sz37 _ _ w.heap.size Bk.zero.cells rfl (by go_simp)) rfl ⟨rfl, (Only.refl [] w).alloc _⟩
  · have hge : (L.length : Int) ≤ at_ := by omega
    have hz : 0 ≤ at_ := by omega
    clear h0
    go_enter Try.func26, Try.ntmps26
    go_wp2
    exact bodyPost_ret (results_cell_tmp (n := 64) rfl _ Try.underlying37 rfl sz37 _ _ w.heap.size Bk.zero.cells rfl (by go_simp)) rfl ⟨rfl, (Only.refl [] w).alloc _⟩

theorem ext_cells {cur : Array Value} {n : Nat} {x : Nat × Bk} (h : cur.extract (n * 65) (n * 65 + 65) = wc x) : cur[n * 65]? = some (.int .i64 x.1) ∧ cur.extract (n * 65 + 1) (n * 65 + 1 + 64) = x.2.cells := by
  constructor
  · have h1 : (cur.extract (n * 65) (n * 65 + 65))[0]? = some (.int .i64 x.1) := by rw [h]; exact wcells_0 _ _
    rw [Array.getElem?_extract] at h1
    split at h1
    · simpa using h1
    · cases h1
  · have h1 : (cur.extract (n * 65) (n * 65 + 65)).extract 1 65 = x.2.cells := by rw [h]; exact wcells_b _ _
    rw [← h1, Array.extract_extract]
    congr 1
    omega
set_option maxRecDepth 100000 in
set_option maxHeartbeats 1600000 in
theorem readR_yes (w : World) (p : Nat) (F : List Nat) (L : Ls) (W : Ws) (at_ : Nat) (h : RefAt w p F L W) (h1 : at_ < L.length) :
    Calls Try.prog 26 #[.pointer (some ⟨p, 0, none⟩), .int .i64 at_] w fun e w' => e = .returned (.tuple #[.agg (rdB L W at_).cells, .int .i64 (rdE L W at_)]) ∧ Only [] w w' := by
  obtain ⟨lb, wv, rfl, hp, hl, hown, hr⟩ := h
  obtain ⟨A, cap, rfl, hA⟩ := own_row0 hown
  have c0 : w.cell? ⟨p, 0, none⟩ = some (.slice (some ⟨lb, 0, none⟩) L.length L.length) := by rw [hp.cell]; rfl
  have c1 : w.cell? ⟨p, 1, none⟩ = some (.slice A W.length cap) := by rw [hp.cell]; rfl
  have lp := hp.lt
  have ll := hl.lt
  have hWm : W.length ≤ 4096 := hr.2.1
  have h1' : ¬ ((L.length : Int) ≤ (at_ : Int)) := by omega
  have HH := hide (And.intro hl hA)
  clear hp hl hr hA hown
  go_enter Try.func26, Try.ntmps26
  go_wp2
  go_loopw [6] (fun i wr => ∃ n : Nat, n ≤ W.length ∧ i = .int .i64 ((n : Int) - 1) ∧ lastOf (W.take n) at_ = lastOf W at_ ∧ wr = w.alloc (.cells Bk.zero.cells 37)) (fun i _ => (intOf i + 1).toNat)
  case atStart => exact ⟨W.length, Nat.le_refl _, by go_num, by rw [List.take_length], rfl⟩
  case round =>
    obtain ⟨n, hn, rfl, hlo, rfl⟩ := hrel
    cases n with
    | succ n =>
      obtain ⟨g, cur, rfl, hg, hle, hsz, hext⟩ := HH.out.2 (by omega)
      have hx : W[n]? = some W[n] := List.getElem?_eq_getElem (by omega)
      obtain ⟨hc0, hc1⟩ := ext_cells (hext n (by omega))
      have k0 : w.cell? ⟨g, n * 65, none⟩ = some (.int .i64 W[n].1) := by rw [hg.cell]; exact hc0
      have k1 : row w g (n * 65 + 1) 64 = some W[n].2.cells := by
        rw [hg.row _ _ (by have := Nat.mul_le_mul_right 65 (show n + 1 ≤ cap by omega); omega), hc1]
      have lg := hg.lt
      have hlt := lastOf_take hx at_
      have e1 : ((n + 1 : Nat) : Int) - 1 = n := by omega
      rw [hlo] at hlt
      rw [e1]
      generalize W[n] = x at *
      have HX := hide (And.intro hx (And.intro hc0 (And.intro hc1 (And.intro hlo hext))))
      clear hx hc0 hc1 hlo hext hg e1
      by_cases hxa : (at_ : Int) = (x.1 : Int)
      · rw [if_pos hxa] at hlt
        have hrd := rd_some h1 hlt
        have q1 : ((x.1 : Int) == (at_ : Int)) = true := by simp [hxa]
        have HR := hide (And.intro hxa (And.intro hlt hrd))
        clear hxa hlt hrd
        go_wp2
        rw [HR.out.2.2.1, HR.out.2.2.2]
        exact bodyPost_ret (results_cell_tmp (n := 64) rfl _ Try.underlying37 rfl sz37 _ _ w.heap.size x.2.cells rfl (by go_simp)) rfl ⟨rfl, (Only.refl [] w).alloc _⟩
      · rw [if_neg hxa] at hlt
        have q1 : ((x.1 : Int) == (at_ : Int)) = false := by simp; omega
        have HR := hide (And.intro hxa hlt)
        clear hxa hlt
        go_wp2
        go_roundw
        case rel => exact ⟨n, by omega, by go_num, HR.out.2.symm, trivial⟩
        case measure => simp [intOf]
    | zero =>
      have hno : lastOf W at_ = none := by rw [← hlo]; rfl
      have hL : L[at_]? = some L[at_] := List.getElem?_eq_getElem h1
      rcases hx : L[at_] with ⟨b, t⟩
      rw [hx] at hL
      have hrd := rd_none h1 hno hL
      have ht : w.cell? ⟨lb, at_ * 65 + 64, none⟩ = some (.bool t) := by rw [HH.out.1.cell, flat_get size_hc hL 64 (by omega)]; exact hcells_t _ _
      have hb : row w lb (at_ * 65) 64 = some b.cells := by
        rw [HH.out.1.row _ _ (by rw [size_flat size_hc]; omega)]
        have := flat_ext size_hc hL 0 64 (by omega)
        simp only [Nat.add_zero, Nat.zero_add] at this
        rw [this]; exact congrArg some (hcells_b _ _)
      have HR := hide (And.intro hrd (And.intro hL (And.intro hno hlo)))
      clear hrd hL hno hlo hx
      cases t with
      | false =>
        go_wp2
        rw [HR.out.1.1, HR.out.1.2]
        exact bodyPost_ret (results_cell_tmp (n := 64) rfl _ Try.underlying37 rfl sz37 _ _ w.heap.size b.cells rfl (by go_simp)) rfl ⟨rfl, (Only.refl [] w).alloc _⟩
      | true =>
        go_wp2
        rw [HR.out.1.1, HR.out.1.2]
        exact bodyPost_ret (results_cell_tmp (n := 64) rfl _ Try.underlying37 rfl sz37 _ _ w.heap.size Bk.zero.cells rfl (by go_simp)) rfl ⟨rfl, (Only.refl [] w).alloc _⟩

/-- Read of the document's store, whatever it is given -/
theorem readR_any (w : World) (p : Nat) (F : List Nat) (L : Ls) (W : Ws) (at_ : Int) (h : RefAt w p F L W) :
    Calls Try.prog 26 #[.pointer (some ⟨p, 0, none⟩), .int .i64 at_] w fun e w' => e = .returned (.tuple #[.agg (rdB L W at_).cells, .int .i64 (rdE L W at_)]) ∧ Only [] w w' := by
  by_cases hr : 0 ≤ at_ ∧ at_ < L.length
  · obtain ⟨h0, h1⟩ := hr
    obtain ⟨k, rfl⟩ := Int.eq_ofNat_of_zero_le h0
    exact readR_yes w p F L W k h (by omega)
  · have e1 : rdB L W at_ = Bk.zero := by unfold rdB; rw [if_neg hr]
    have e2 : rdE L W at_ = 2 := by unfold rdE; rw [if_neg hr]
    rw [e1, e2]
    exact readR_no w p F L W at_ h hr
end Go.Proofs.Ytkempjcdapfopaa
