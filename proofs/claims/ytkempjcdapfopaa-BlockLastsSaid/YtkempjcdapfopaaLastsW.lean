/- BlockLasts, walked: what was synced lasts through any crash. Conditions: the steps lie in memory as 'OpsAt' says. -/
import Derived.Test.YtkempjcdapfopaaLastsP
namespace Go.Proofs.Ytkempjcdapfopaa
open Go.RowKit
attribute [local go_sem ↓] Go.wp_at_zero Go.wp_at_succ

/-- two stores of the program, apart from each other and newer than w -/
def Two (w wr : World) (p q : Nat) (L : Ls) (W : Ws) (L1 : Ls) (W1 : Ws) : Prop :=
  ∃ F G, StoreAt wr p F L W ∧ StoreAt wr q G L1 W1 ∧ Only [] w wr ∧ (∀ x ∈ F, w.heap.size ≤ x ∧ x ∉ G) ∧ ∀ x ∈ G, w.heap.size ≤ x
theorem Two.only {w wr w' : World} {p q : Nat} {L L1 : Ls} {W W1 : Ws} (h : Two w wr p q L W L1 W1) (ho : Only [] wr w') : Two w w' p q L W L1 W1 := by
  obtain ⟨F, G, h1, h2, h3, h4, h5⟩ := h
  exact ⟨F, G, h1.only ho (by simp), h2.only ho (by simp), h3.new ho (by simp), h4, h5⟩
theorem two_moveS {w wr w' : World} {p q : Nat} {F G : List Nat} {L L1 : Ls} {W W1 : Ws} (hR : StoreAt wr q G L1 W1) (ho : Only [] w wr) (hF : ∀ x ∈ F, w.heap.size ≤ x ∧ x ∉ G) (hG : ∀ x ∈ G, w.heap.size ≤ x)
    (hm : Moved wr w' p F L W) : Two w w' p q L W L1 W1 := by
  obtain ⟨F', h1, h2, h3⟩ := hm
  refine ⟨F', G, h1, hR.only h2 (fun x hx hxF => (hF x hxF).2 hx), ho.new h2 (fun x hx => (hF x hx).1), fun x hx => ?_, hG⟩
  rcases h3 x hx with h | h
  · exact hF x h
  · exact ⟨by have := ho.size; omega, fun hg => by have := hR.lt x hg; omega⟩
theorem two_moveR {w wr w' : World} {p q : Nat} {F G : List Nat} {L L1 : Ls} {W W1 : Ws} (hS : StoreAt wr p F L W) (ho : Only [] w wr) (hF : ∀ x ∈ F, w.heap.size ≤ x ∧ x ∉ G) (hG : ∀ x ∈ G, w.heap.size ≤ x)
    (hm : Moved wr w' q G L1 W1) : Two w w' p q L W L1 W1 := by
  obtain ⟨G', h1, h2, h3⟩ := hm
  refine ⟨F, G', hS.only h2 (fun x hx => (hF x hx).2), h1, ho.new h2 hG, fun x hx => ⟨(hF x hx).1, fun hg => ?_⟩, fun x hx => ?_⟩
  · rcases h3 x hg with h | h
    · exact (hF x hx).2 h
    · have := hS.lt x hx; omega
  · rcases h3 x hx with h | h
    · exact hG x h
    · have := ho.size; omega
/-- a store that is newer than w, and none of the three blocks -/
def One (w wr : World) (p : Nat) (bs : List Nat) (L : Ls) (W : Ws) : Prop := ∃ F, StoreAt wr p F L W ∧ Only [] w wr ∧ ∀ x ∈ F, w.heap.size ≤ x ∧ x ∉ bs

set_option maxRecDepth 100000 in
set_option maxHeartbeats 32000000 in
theorem lasts_law (w : World) (B : Nat) (v v' : Value) (l l' : List OpX) (h : OpsAt w B v l) (h' : OpsAt w B v' l') (hB : B ≤ w.heap.size) (hmax : l.length ≤ 9223372036854775807) (hmax' : l'.length ≤ 9223372036854775807) :
    Calls Try.prog 4 #[v, v'] w fun e w' => e = .returned (.bool true) ∧ Only [] w w' := by
  have HO := hide h
  have HO' := hide h'
  obtain ⟨A, c, rfl, _⟩ := h
  obtain ⟨A', c', rfl, _⟩ := h'
  go_enter Try.func4, Try.ntmps4
  go_wp2_with fail
  refine (alive_any _).mono ?_
  rintro e w1 ⟨rfl, ho1⟩
  have H1 := hide ho1
  clear ho1
  go_wp2_with fail
  refine (great_any _ B _ l (HO.out.only H1.out hB (by simp)) (by have := H1.out.size; omega) hmax).mono ?_
  rintro e w2 ⟨r, rfl, ho2, hr2⟩
  cases r with
  | true =>
    have H2 := hide ho2
    clear ho2 hr2
    go_wp2
    go_ret
    exact ⟨rfl, H1.out.new H2.out (by simp)⟩
  | false =>
    have H2 := hide (And.intro (H1.out.new ho2 (by simp)) (hr2 rfl))
    clear ho2 hr2
    go_wp2_with fail
    refine (great_any _ B _ l' (HO'.out.only H2.out.1 hB (by simp)) (by have := H2.out.1.size; omega) hmax').mono ?_
    rintro e w3 ⟨r, rfl, ho3, hr3⟩
    cases r with
    | true =>
      have H3 := hide ho3
      clear ho3 hr3
      go_wp2
      go_ret
      exact ⟨rfl, H2.out.1.new H3.out (by simp)⟩
    | false =>
      have H3 := hide (And.intro (H2.out.1.new ho3 (by simp)) (hr3 rfl))
      clear ho3 hr3
      go_wp2_with fail
      refine (new_int _ 30 (by omega) (by omega)).mono ?_
      rintro e w4 ⟨p, F, rfl, hS, ho4, hF⟩
      have H4 := hide (And.intro hS (And.intro ho4 hF))
      clear hS ho4 hF
      go_wp2_with fail
      refine (new_int _ 30 (by omega) (by omega)).mono ?_
      rintro e w5 ⟨q, G, rfl, hR, ho5, hG⟩
      have HP0 := hide (show Two w w5 p q (List.replicate (Int.toNat 30) z0) [] (List.replicate (Int.toNat 30) z0) [] from
        ⟨F, G, H4.out.1.only ho5 (by simp), hR, (H3.out.1.new H4.out.2.1 (by simp)).new ho5 (by simp), fun x hx => ⟨by have := H4.out.2.2 x hx; have := H3.out.1.size; omega, fun hg => by have := hG x hg; have := H4.out.1.lt x hx; omega⟩,
          fun x hx => by have := hG x hx; have := H3.out.1.size; have := H4.out.2.1.size; omega⟩)
      clear hR ho5 hG
      go_wp2
      go_loopw [41] (fun i wr => ∃ k : Nat, k ≤ l.length ∧ i = .int .i64 k ∧ ∃ L W, L.length = 30 ∧ Two w wr p q L W L W) (fun i _ => l.length - (intOf i).toNat)
      case atStart => exact ⟨0, Nat.zero_le _, rfl, _, _, by simp, HP0.out⟩
      case round =>
        obtain ⟨k, hk, rfl, hinv⟩ := hrel
        obtain ⟨wo, rfl⟩ : ∃ wo : World, wo = wr := ⟨_, rfl⟩
        have HI := hide hinv
        clear hinv
        by_cases hlt : k < l.length
        · obtain ⟨L, W, hL30, F, G, hS, hR, ho, hF, hG⟩ := HI.out
          have hsz := ho.size
          have hOA := HO.out.only ho hB (by simp)
          obtain ⟨b, o, Ab, nb, cb, Af, nf, cf, rfl, hbB, c0, c1, c2, c3, hv⟩ := hOA.at_ hlt
          have hxm := H2.out.2.1 l[k] (List.getElem_mem hlt)
          generalize hx : l[k] = x at *
          have HX := hide (And.intro hS (And.intro hR (And.intro ho (And.intro hF (And.intro hG (And.intro hv (And.intro hxm hL30)))))))
          clear hS hR ho hF hG hv hxm hx hOA hL30
          go_wp2_with fail
          have ob : Only [] wo (wo.alloc (Obj.cells #[.int .i64 x.kind, .int .i64 x.at_, .slice Ab nb cb, .slice Af nf cf] 34)) := (Only.refl [] wo).alloc _
          refine (do_any _ p B F L W x (.slice Ab nb cb) (.slice Af nf cf) (HX.out.1.only ob (by simp)) (HX.out.2.2.2.2.2.1.only ob (by omega) (by simp)) (by have := ob.size; omega) (fun y hy => by have := (HX.out.2.2.2.1 y hy).1; omega) HX.out.2.2.2.2.2.2.1.2).mono ?_
          rintro e w6 ⟨rfl, hm6⟩
          have hbx : wo.heap.size ∉ F := fun hm => by have := HX.out.1.lt _ hm; omega
          have ho6 : Only F wo w6 := by obtain ⟨_, _, h2, _⟩ := hm6; exact ob.trans h2 (by simp) (fun y hy _ => hy)
          have hX6 : Blk w6 wo.heap.size 34 #[.int .i64 x.kind, .int .i64 x.at_, .slice Ab nb cb, .slice Af nf cf] := (Blk.new wo 34 _).only (by obtain ⟨_, _, h2, _⟩ := hm6; exact h2) hbx
          have hP6 : Two w w6 p q (stL L W x) (stW L W x) L W := two_moveS (HX.out.2.1.only ob (by simp)) (HX.out.2.2.1.new ob (by simp)) HX.out.2.2.2.1 HX.out.2.2.2.2.1 hm6
          have hv6 : OpVal w6 B x (.slice Ab nb cb) (.slice Af nf cf) := HX.out.2.2.2.2.2.1.only ho6 (by omega) (fun y hy => by have := (HX.out.2.2.2.1 y hy).1; omega)
          have l6 : wo.heap.size < w6.heap.size := hX6.lt
          have k0 : w6.cell? ⟨wo.heap.size, 0, none⟩ = some (.int .i64 x.kind) := by rw [hX6.cell]; rfl
          have k1 : w6.cell? ⟨wo.heap.size, 1, none⟩ = some (.int .i64 x.at_) := by rw [hX6.cell]; rfl
          have k2 : w6.cell? ⟨wo.heap.size, 2, none⟩ = some (.slice Ab nb cb) := by rw [hX6.cell]; rfl
          have k3 : w6.cell? ⟨wo.heap.size, 3, none⟩ = some (.slice Af nf cf) := by rw [hX6.cell]; rfl
          obtain ⟨F6, G6, hS6, hR6, hoo6, hF6, hG6⟩ := hP6
          have H6 := hide (And.intro hS6 (And.intro hR6 (And.intro hoo6 (And.intro hF6 (And.intro hG6 (And.intro hv6 hX6))))))
          clear hm6 hbx ho6 hX6 hv6 ob hS6 hR6 hoo6 hF6 hG6
          go_wp2_with fail
          refine (do_any _ q B G6 L W x (.slice Ab nb cb) (.slice Af nf cf) H6.out.2.1 H6.out.2.2.2.2.2.1 (by have := H6.out.2.2.1.size; omega) (fun y hy => by have := H6.out.2.2.2.2.1 y hy; omega) HX.out.2.2.2.2.2.2.1.2).mono ?_
          rintro e w7 ⟨rfl, hm7⟩
          have HC := hide (two_moveR H6.out.1 H6.out.2.2.1 H6.out.2.2.2.1 H6.out.2.2.2.2.1 hm7)
          clear hm7 k0 k1 k2 k3
          go_wp2
          go_roundw
          case rel => exact ⟨k + 1, by omega, by go_num, stL L W x, stW L W x, by rw [stL_len]; exact HX.out.2.2.2.2.2.2.2, HC.out⟩
          case measure => simp [intOf]; omega
        · have hge : (l.length : Int) ≤ (k : Int) := by omega
          obtain ⟨L, W, hL30, F6, G6, hS6, hR6, ho6, hF6, hG6⟩ := HI.out
          have hW4 : W.length ≤ 4096 := by obtain ⟨_, _, _, _, _, _, _, _, hr⟩ := hS6; exact hr.2.1
          have hWin := hS6.inn
          have HP := hide (And.intro hS6 (And.intro hR6 (And.intro ho6 (And.intro hF6 (And.intro hG6 (And.intro hL30 hWin))))))
          clear hL30 hS6 hR6 ho6 hF6 hG6 hWin
          go_wp2_with fail
          refine (waiting_any _ p F6 L W HP.out.1).mono ?_
          rintro e w6 ⟨rfl, rfl⟩
          obtain ⟨i0, hi0, hz0, hz1, hz2⟩ := info_parts info5
          go_wp2
          go_loopw [54, 11] (fun i v wr => ∃ j : Nat, j ≤ W.length ∧ i = .int .i64 j ∧ wr.ownsRow wo.heap.size 5 1 v j (List.replicate j (.int .u8 1)) ∧ Only [] wo wr) (fun i _ _ => W.length - (intOf i).toNat)
          case atStart => exact ⟨0, Nat.zero_le _, rfl, ⟨rfl, .inl ⟨rfl, rfl⟩⟩, Only.refl _ _⟩
          case round =>
            obtain ⟨j, hj, rfl, hown, hoj⟩ := hrel
            obtain ⟨ao, cv, rfl⟩ := ownsRow_val hown
            have hsj := hoj.size
            have HJ := hide (And.intro hown hoj)
            clear hown hoj
            by_cases hjl : j < W.length
            · go_wp2_with (first
                | (at_builtin; refine wpList_append_lies _ rfl _ _ 32 rfl wo.heap.size 5 i0 (.int .u8 0) 1 1 Try.underlying32 hi0 hz0 hz1 hz2 rfl (by decide) _ j (List.replicate j (.int .u8 1)) rfl (HJ.out.1.alloc _) ⟨wr.heap.size, 0, none⟩ 1 1 [.int .u8 1] rfl rfl
                     (World.news_of_block (cs := #[.int .u8 1]) (t := 5) (fr := (0, 0)) (heap_alloc_new _ _)) (fun u hu => by simp at hu; subst hu; rfl) (by decide) (by simp only [maxLen]; omega) (by omega) (by simp; omega) (wr.heap.size + 1) (by simp) ?_
                   intro gg cap w8 hown8 hgrow hat hlt8
                   have H8 := hide (And.intro hown8 (And.intro hgrow hat))
                   clear hown8 hgrow hat hlt8))
              go_roundw
              case rel => exact ⟨j + 1, by omega, by go_num, by rw [List.replicate_succ']; exact H8.out.1, (HJ.out.2.alloc _).grown H8.out.2.1 (fun k hk => .inr (HJ.out.1.lt k hk).1)⟩
              case measure => simp [intOf]; omega
            · have hjn : j = W.length := by omega
              subst hjn
              go_wp2_with fail
              refine (sync_any _ p F6 L W (HP.out.1.only HJ.out.2 (by simp))).mono ?_
              rintro e w7 ⟨rfl, hm7⟩
              have HT7 := hide (two_moveS (HP.out.2.1.only HJ.out.2 (by simp)) (HP.out.2.2.1.new HJ.out.2 (by simp)) HP.out.2.2.2.1 HP.out.2.2.2.2.1 hm7)
              have hby : ∀ w', Only G6 w7 w' → Bytes w' wr.heap.size (.slice ao W.length cv) (List.replicate W.length 1) := fun w' ho' => by
                obtain ⟨_, _, h2, _⟩ := hm7
                refine ((ones_bytes HJ.out.1).far h2 (fun g hg hF => ?_)).far ho' (fun g hg hG => ?_)
                · have := (HJ.out.1.lt g hg).1
                  have := HP.out.1.lt g hF
                  omega
                · have := (HJ.out.1.lt g hg).1
                  have := HP.out.2.1.lt g hG
                  omega
              have hR7 : StoreAt w7 q G6 L W := by
                obtain ⟨_, _, h2, _⟩ := hm7
                exact (HP.out.2.1.only HJ.out.2 (by simp)).only h2 (fun x hx hxF => (HP.out.2.2.2.1 x hxF).2 hx)
              have hS7 : One w w7 p G6 (settleL L W (fun _ => 1) 0) [] := by
                obtain ⟨F7, h1, h2, h3⟩ := hm7
                refine ⟨F7, h1, (HP.out.2.2.1.new HJ.out.2 (by simp)).new h2 (fun x hx => (HP.out.2.2.2.1 x hx).1), fun x hx => ?_⟩
                rcases h3 x hx with h | h
                · exact HP.out.2.2.2.1 x h
                · exact ⟨by have := HP.out.2.2.1.size; omega, fun hg => by have := HP.out.2.1.lt x hg; omega⟩
              obtain ⟨F7, hS7, ho7, hF7⟩ := hS7
              have H7 := hide (And.intro hS7 (And.intro hR7 (And.intro ho7 (And.intro hF7 hby))))
              clear hS7 hR7 ho7 hF7 hby hm7 HT7
              go_wp2_with fail
              refine (crash_gen _ q wr.heap.size G6 L W _ (List.replicate W.length 1) H7.out.2.1 H7.out.2.2.2.2).mono ?_
              rintro e w9 ⟨rfl, hm9⟩
              rw [ones_fate] at hm9
              have hT9 := two_moveR H7.out.1 H7.out.2.2.1 H7.out.2.2.2.1 HP.out.2.2.2.2.1 hm9
              obtain ⟨L1, hL1⟩ : ∃ L1, L1 = settleL L W (fun _ => 1) 0 := ⟨_, rfl⟩
              rw [← hL1] at hT9
              have hl1 : L1.length = 30 := by rw [hL1, settleL_len]; exact HP.out.2.2.2.2.2.1
              obtain ⟨F9, G9, hS9, hR9, ho9, hF9, hG9⟩ := hT9
              have HT := hide (And.intro hS9 (And.intro hR9 (And.intro ho9 (And.intro hF9 (And.intro hG9 hl1)))))
              have hs9 := ho9.size
              clear hm9 hS9 hR9 ho9 hF9 hG9 hl1 hL1
              go_wp2
              have o10 : Only [] w9 ((w9.alloc (Obj.cells (bks bk30) 53)).alloc (Obj.cells (ints i30) 54)) := ((Only.refl [] w9).alloc _).alloc _
              have b12 : Blk ((w9.alloc (Obj.cells (bks bk30) 53)).alloc (Obj.cells (ints i30) 54)) w9.heap.size 53 (bks bk30) := (Blk.new w9 53 _).alloc _
              have b13 : Blk ((w9.alloc (Obj.cells (bks bk30) 53)).alloc (Obj.cells (ints i30) 54)) (w9.heap.size + 1) 54 (ints i30) := by
                have := Blk.new (w9.alloc (Obj.cells (bks bk30) 53)) 54 (ints i30)
                simpa using this
              have hs10 : ((w9.alloc (Obj.cells (bks bk30) 53)).alloc (Obj.cells (ints i30) 54)).heap.size = w9.heap.size + 2 := by simp
              generalize ((w9.alloc (Obj.cells (bks bk30) 53)).alloc (Obj.cells (ints i30) 54)) = w10 at o10 b12 b13 hs10 ⊢
              have hst : ∀ wx, Only [w9.heap.size, w9.heap.size + 1] w10 wx → StoreAt wx p F9 L1 [] ∧ StoreAt wx q G9 L1 [] := fun wx hox =>
                ⟨(HT.out.1.only o10 (by simp)).only hox (fun x hx => by have := HT.out.1.lt x hx; simp; omega), (HT.out.2.1.only o10 (by simp)).only hox (fun x hx => by have := HT.out.2.1.lt x hx; simp; omega)⟩
              have H10 := hide (And.intro o10 (And.intro b12 (And.intro b13 hst)))
              clear o10 b12 b13 hst
              go_loopw [65] (fun i wr => ∃ j : Nat, j ≤ 30 ∧ i = .int .i64 j ∧ ∃ m T, Blk wr w9.heap.size 53 (bks m) ∧ m.length = 30 ∧ Blk wr (w9.heap.size + 1) 54 (ints T) ∧ T.length = 30 ∧ (∀ i : Nat, i < j → m.getD i Bk.zero = rdB L1 [] i ∧ T.getD i 0 = rdE L1 [] i) ∧ Only [w9.heap.size, w9.heap.size + 1] w10 wr) (fun i _ => 30 - (intOf i).toNat)
              case atStart => exact ⟨0, Nat.zero_le _, rfl, _, _, H10.out.2.1, by simp [bk30], H10.out.2.2.1, i30_len, fun i hi => absurd hi (Nat.not_lt_zero _), Only.refl _ _⟩
              case round =>
                obtain ⟨j, hj, rfl, m, T, hbm, hm, hbT, hT, hrd, hoj⟩ := hrel
                have HM := hide (And.intro hbm (And.intro hm (And.intro hbT (And.intro hT (And.intro hrd hoj)))))
                clear hbm hm hbT hT hrd hoj
                by_cases hjl : j < 30
                · go_wp2_with fail
                  refine (read_any _ p F9 L1 [] j (H10.out.2.2.2 _ HM.out.2.2.2.2.2).1).mono ?_
                  rintro e w11 ⟨rfl, ho11⟩
                  have hb11 := HM.out.1.only ho11 (by simp)
                  have hT11 := HM.out.2.2.1.only ho11 (by simp)
                  have hpt : canPut w11 w9.heap.size (j * 64) 64 = true := hb11.canPut _ _ (by rw [size_bks, HM.out.2.1]; omega)
                  have hcT : w11.cell? ⟨w9.heap.size + 1, j, none⟩ = some (.int .i64 (T.getD j 0)) := by rw [hT11.cell, ints_get (by rw [HM.out.2.2.2.1]; exact hjl)]
                  have hfT : w11.frozen? ⟨w9.heap.size + 1, j, none⟩ = false := hT11.frozen j
                  have l12 := hb11.lt
                  have l13 := hT11.lt
                  generalize hrb : rdB L1 [] (j : Int) = rb
                  generalize hre : rdE L1 [] (j : Int) = re
                  have H11 := hide (And.intro ho11 (And.intro hb11 (And.intro hT11 (And.intro hrb hre))))
                  clear ho11 hb11 hT11 hrb hre
                  go_wp2_with fail
                  have hjm : j < m.length := by rw [HM.out.2.1]; exact hjl
                  have hjT : j < T.length := by rw [HM.out.2.2.2.1]; exact hjl
                  have b12' : Blk ((put w11 w9.heap.size (j * 64) rb.cells).setCell ⟨w9.heap.size + 1, j, none⟩ (.int .i64 re)) w9.heap.size 53 (bks (m.set j rb)) := by
                    have hb := (H11.out.2.1.put_ (j * 64) rb.cells).far (p := ⟨w9.heap.size + 1, j, none⟩) (by simp) (.int .i64 re)
                    rw [show splice (bks m) (j * 64) rb.cells = bks (m.set j rb) from flat_set Bk.size_cells hjm _] at hb
                    exact hb
                  have b13' : Blk ((put w11 w9.heap.size (j * 64) rb.cells).setCell ⟨w9.heap.size + 1, j, none⟩ (.int .i64 re)) (w9.heap.size + 1) 54 (ints (T.set j re)) := by
                    have hb := (H11.out.2.2.1.putFar (b := w9.heap.size) (by omega) (j * 64) rb.cells).set_ j (.int .i64 re)
                    rw [ints_set] at hb
                    exact hb
                  have o12 : Only [w9.heap.size, w9.heap.size + 1] w11 ((put w11 w9.heap.size (j * 64) rb.cells).setCell ⟨w9.heap.size + 1, j, none⟩ (.int .i64 re)) := ((Only.refl _ _).put (.inl (by simp)) _ _).setCell (.inl (by simp)) _
                  generalize (put w11 w9.heap.size (j * 64) rb.cells).setCell ⟨w9.heap.size + 1, j, none⟩ (.int .i64 re) = w12 at b12' b13' o12 ⊢
                  have o12' : Only [w9.heap.size, w9.heap.size + 1] w10 w12 := (HM.out.2.2.2.2.2.trans H11.out.1 (by simp) (by simp)).trans o12 (fun x hx => hx) (fun x hx _ => hx)
                  refine (read_any _ q G9 L1 [] j (H10.out.2.2.2 _ o12').2).mono ?_
                  rintro e w13 ⟨rfl, ho13⟩
                  rw [H11.out.2.2.2.1, H11.out.2.2.2.2]
                  have b12'' := b12'.only ho13 (by simp)
                  have b13'' := b13'.only ho13 (by simp)
                  have r1 : row (w13.alloc (Obj.cells rb.cells 45)).drew w9.heap.size (j * 64) 64 = some rb.cells := by
                    rw [((b12''.alloc _).drew).row (j * 64) 64 (by rw [size_bks, List.length_set]; omega)]
                    have := flat_ext Bk.size_cells (show (m.set j rb)[j]? = some rb by simp [hjm]) 0 64 (by omega)
                    simp only [Nat.add_zero, Nat.zero_add, Bk.ext_cells] at this
                    exact congrArg some this
                  have r2 : row (w13.alloc (Obj.cells rb.cells 45)).drew w13.heap.size 0 64 = some rb.cells := by rw [((Blk.new w13 45 rb.cells).drew).row 0 64 (by simp), Bk.ext_cells]
                  have r3 : w13.cell? ⟨w9.heap.size + 1, j, none⟩ = some (.int .i64 re) := by
                    rw [b13''.cell, ints_get (by rw [List.length_set]; exact hjT)]
                    simp [List.getD, hjT]
                  have l14 := b12''.lt
                  have l15 := b13''.lt
                  have HY := hide (And.intro b12'' (And.intro b13'' (And.intro o12' ho13)))
                  clear b12' b13' o12 o12' b12'' b13'' ho13 hjm hjT
                  go_wp2_with fail
                  refine wp_lone (by kernel_rfl) (by kernel_rfl) ?_
                  repeat still_step
                  refine wpStill_nil ?_
                  go_wp2
                  go_roundw
                  case rel =>
                    refine ⟨j + 1, by omega, by go_num, m.set j rb, T.set j re, (HY.out.1.alloc _).drew, by rw [List.length_set]; exact HM.out.2.1, (HY.out.2.1.alloc _).drew, by rw [List.length_set]; exact HM.out.2.2.2.1, fun i hi => ?_, (((HY.out.2.2.1.trans HY.out.2.2.2 (by simp) (by simp)).alloc _).drew)⟩
                    rw [getD_set (by rw [HM.out.2.1]; exact hjl), getD_set (by rw [HM.out.2.2.2.1]; exact hjl)]
                    by_cases hij : i = j
                    · rw [if_pos hij, if_pos hij, hij]; exact ⟨H11.out.2.2.2.1.symm, H11.out.2.2.2.2.symm⟩
                    · rw [if_neg hij, if_neg hij]; exact HM.out.2.2.2.2.1 i (by omega)
                  case measure => simp [intOf]; omega
                · have hj30 : j = 30 := by omega
                  subst hj30
                  obtain ⟨wq, rfl⟩ : ∃ wq : World, wq = wr := ⟨_, rfl⟩
                  go_wp2
                  have hqs : w9.heap.size + 1 < wq.heap.size := HM.out.2.2.1.lt
                  go_loopw [99] (fun i wr => ∃ k : Nat, k ≤ l'.length ∧ i = .int .i64 k ∧ ∃ L W ag F, StoreAt wr p F L W ∧ Still30 L1 L W ag ∧ Blk wr wq.heap.size 55 (bools ag) ∧ Blk wr w9.heap.size 53 (bks m) ∧ Blk wr (w9.heap.size + 1) 54 (ints T) ∧ Only [] w wr ∧ ∀ x ∈ F, w.heap.size ≤ x ∧ x ≠ wq.heap.size ∧ x ≠ w9.heap.size ∧ x ≠ w9.heap.size + 1) (fun i _ => l'.length - (intOf i).toNat)
                  case atStart =>
                    have ow : Only [] w wq := (HT.out.2.2.1.new H10.out.1 (by simp)).new HM.out.2.2.2.2.2 (by simp; omega)
                    refine ⟨0, Nat.zero_le _, rfl, L1, [], f30, F9, (H10.out.2.2.2 _ HM.out.2.2.2.2.2).1.only ((Only.refl [] _).alloc _) (by simp), still_new30 HT.out.2.2.2.2.2, Blk.new wq 55 _, HM.out.1.alloc _, HM.out.2.2.1.alloc _, ow.alloc _, fun x hx => ⟨(HT.out.2.2.2.1 x hx).1, ?_⟩⟩
                    have := HT.out.1.lt x hx
                    omega
                  case round =>
                    obtain ⟨k, hk, rfl, hinv⟩ := hrel
                    obtain ⟨wo, rfl⟩ : ∃ wo : World, wo = wr := ⟨_, rfl⟩
                    have HI := hide hinv
                    clear hinv
                    by_cases hlt : k < l'.length
                    · obtain ⟨L, W, ag, F, hS, hst, hb17, hb12, hb13, ho, hF⟩ := HI.out
                      have hsz := ho.size
                      have hOA := HO'.out.only ho hB (by simp)
                      obtain ⟨b, o, Ab, nb, cb, Af, nf, cf, rfl, hbB, c0, c1, c2, c3, hv⟩ := hOA.at_ hlt
                      have hxm := H3.out.2.1 l'[k] (List.getElem_mem hlt)
                      generalize hx : l'[k] = x at *
                      have HX := hide (And.intro hS (And.intro hst (And.intro hb17 (And.intro hb12 (And.intro hb13 (And.intro ho (And.intro hF (And.intro hv hxm))))))))
                      clear hS hst hb17 hb12 hb13 ho hF hv hxm hx hOA
                      go_wp2_with fail
                      have ob : Only [] wo (wo.alloc (Obj.cells #[.int .i64 x.kind, .int .i64 x.at_, .slice Ab nb cb, .slice Af nf cf] 34)) := (Only.refl [] wo).alloc _
                      refine (do_any _ p B F L W x (.slice Ab nb cb) (.slice Af nf cf) (HX.out.1.only ob (by simp)) (HX.out.2.2.2.2.2.2.2.1.only ob (by omega) (by simp)) (by have := ob.size; omega) (fun y hy => by have := (HX.out.2.2.2.2.2.2.1 y hy).1; omega) HX.out.2.2.2.2.2.2.2.2.2).mono ?_
                      rintro e w15 ⟨rfl, F5, hS5, ho5, hF5⟩
                      have hbx : wo.heap.size ∉ F := fun hm => by have := HX.out.1.lt _ hm; omega
                      have hX5 : Blk w15 wo.heap.size 34 #[.int .i64 x.kind, .int .i64 x.at_, .slice Ab nb cb, .slice Af nf cf] := (Blk.new wo 34 _).only ho5 hbx
                      have h17 : Blk w15 wq.heap.size 55 (bools ag) := (HX.out.2.2.1.alloc _).only ho5 (fun hm => (HX.out.2.2.2.2.2.2.1 _ hm).2.1 rfl)
                      have h12 : Blk w15 w9.heap.size 53 (bks m) := (HX.out.2.2.2.1.alloc _).only ho5 (fun hm => (HX.out.2.2.2.2.2.2.1 _ hm).2.2.1 rfl)
                      have h13 : Blk w15 (w9.heap.size + 1) 54 (ints T) := (HX.out.2.2.2.2.1.alloc _).only ho5 (fun hm => (HX.out.2.2.2.2.2.2.1 _ hm).2.2.2 rfl)
                      have hO5 : Only [] w w15 := (HX.out.2.2.2.2.2.1.new ob (by simp)).new ho5 (fun y hy => (HX.out.2.2.2.2.2.2.1 y hy).1)
                      have hF5' : ∀ y ∈ F5, w.heap.size ≤ y ∧ y ≠ wq.heap.size ∧ y ≠ w9.heap.size ∧ y ≠ w9.heap.size + 1 := fun y hy => by
                        rcases hF5 y hy with h | h
                        · exact HX.out.2.2.2.2.2.2.1 y h
                        · have := HX.out.2.2.1.lt
                          have := ob.size
                          omega
                      have hgo := still_go (x := x) HX.out.2.1
                      have k0 : w15.cell? ⟨wo.heap.size, 0, none⟩ = some (.int .i64 x.kind) := by rw [hX5.cell]; rfl
                      have l5 := hX5.lt
                      by_cases hc : stE L W x = 0 ∧ x.kind = 1
                      · obtain ⟨⟨n, hn, hn30⟩, hst5⟩ := hgo.1 hc.1 hc.2
                        have k1 : w15.cell? ⟨wo.heap.size, 1, none⟩ = some (.int .i64 n) := by rw [hX5.cell, ← hn]; rfl
                        have k17 : w15.cell? ⟨wq.heap.size, n, none⟩ = some (.bool (ag.getD n false)) := by rw [h17.cell, bools_get (by rw [HX.out.2.1.2.1]; exact hn30)]
                        have f17 : w15.frozen? ⟨wq.heap.size, n, none⟩ = false := h17.frozen n
                        have h1' : (x.kind == 1) = true := by simp [hc.2]
                        rw [hc.1]
                        have HB := hide (And.intro hS5 (And.intro hst5 (And.intro h17 (And.intro h12 (And.intro h13 (And.intro hO5 (And.intro hF5' hn)))))))
                        clear hS5 hst5 h17 h12 h13 hO5 hF5' hF5 ho5 hX5 hgo hc hn ob hbx
                        generalize ag.getD n false = agn at k17
                        go_wp2
                        go_roundw
                        case rel =>
                          have og : Only [wq.heap.size] w15 (w15.setCell ⟨wq.heap.size, n, none⟩ (.bool true)) := (Only.refl _ _).setCell (.inl (by simp)) _
                          have h17' := HB.out.2.2.1.set_ n (.bool true)
                          rw [bools_set] at h17'
                          have e1 : x.at_.toNat = n := by rw [HB.out.2.2.2.2.2.2.2]; rfl
                          (repeat apply Exists.intro)
                          refine ⟨⟨k + 1, by omega, by go_num, stL L W x, stW L W x, ag.set n true, F5, HB.out.1.only og (fun y hy => by simp; exact (HB.out.2.2.2.2.2.2.1 y hy).2.1), by rw [← e1]; exact HB.out.2.1, h17', HB.out.2.2.2.1.only og (by simp; omega), HB.out.2.2.2.2.1.only og (by simp; omega), HB.out.2.2.2.2.2.1.new og (by simp; have := HT.out.2.2.1.size; omega), HB.out.2.2.2.2.2.2.1⟩, rfl⟩
                        case measure => simp [intOf]; omega
                      · have hst5 := hgo.2 hc
                        have HB := hide (And.intro hS5 (And.intro hst5 (And.intro h17 (And.intro h12 (And.intro h13 (And.intro hO5 hF5'))))))
                        by_cases he : stE L W x = 0
                        · have h1' : (x.kind == 1) = false := by simp; exact fun h => hc ⟨he, h⟩
                          rw [he]
                          clear hS5 hst5 h17 h12 h13 hO5 hF5' hF5 ho5 hX5 hgo hc ob hbx he
                          go_wp2
                          go_roundw
                          case rel => (repeat apply Exists.intro); exact ⟨⟨k + 1, by omega, by go_num, _, _, ag, F5, HB.out⟩, rfl⟩
                          case measure => simp [intOf]; omega
                        · have h0' : (stE L W x == 0) = false := by simp [he]
                          clear hS5 hst5 h17 h12 h13 hO5 hF5' hF5 ho5 hX5 hgo hc ob hbx he
                          go_wp2
                          go_roundw
                          case rel => (repeat apply Exists.intro); exact ⟨⟨k + 1, by omega, by go_num, _, _, ag, F5, HB.out⟩, rfl⟩
                          case measure => simp [intOf]; omega
                    · have hge : (l'.length : Int) ≤ (k : Int) := by omega
                      obtain ⟨L, W, ag, F, hS, hst, hb17, hb12, hb13, ho, hF⟩ := HI.out
                      have HX := hide (And.intro hS (And.intro hst (And.intro hb17 (And.intro hb12 (And.intro hb13 (And.intro ho hF))))))
                      clear hS hst hb17 hb12 hb13 ho hF
                      go_wp2_with fail
                      refine (crash_any _ p w.heap.size F L W _ [] HX.out.1 ⟨none, 0, rfl, by simp, by simp⟩ HX.out.2.2.2.2.2.1.size (fun y hy => (HX.out.2.2.2.2.2.2 y hy).1)).mono ?_
                      rintro e w16 ⟨rfl, F7, hS7, ho7, hF7⟩
                      rw [settleL_none] at hS7
                      have h17 : Blk w16 wq.heap.size 55 (bools ag) := HX.out.2.2.1.only ho7 (fun hm => (HX.out.2.2.2.2.2.2 _ hm).2.1 rfl)
                      have h12 : Blk w16 w9.heap.size 53 (bks m) := HX.out.2.2.2.1.only ho7 (fun hm => (HX.out.2.2.2.2.2.2 _ hm).2.2.1 rfl)
                      have h13 : Blk w16 (w9.heap.size + 1) 54 (ints T) := HX.out.2.2.2.2.1.only ho7 (fun hm => (HX.out.2.2.2.2.2.2 _ hm).2.2.2 rfl)
                      have HB := hide (And.intro hS7 (And.intro h17 (And.intro h12 (And.intro h13 (HX.out.2.2.2.2.2.1.new ho7 (fun y hy => (HX.out.2.2.2.2.2.2 y hy).1))))))
                      clear hS7 ho7 hF7 h17 h12 h13
                      go_wp2
                      go_loopw [118] (fun i wr => ∃ j : Nat, j ≤ 30 ∧ i = .int .i64 j ∧ Only [] w16 wr) (fun i _ => 30 - (intOf i).toNat)
                      case atStart => exact ⟨0, Nat.zero_le _, rfl, Only.refl _ _⟩
                      case round =>
                        obtain ⟨j, hj, rfl, hoj⟩ := hrel
                        have HJ := hide hoj
                        clear hoj
                        by_cases hjl : j < 30
                        · go_wp2_with fail
                          refine (read_any _ p F7 L [] j (HB.out.1.only HJ.out (by simp))).mono ?_
                          rintro e w17 ⟨rfl, ho17⟩
                          have hjm : j < m.length := by rw [HM.out.2.1]; exact hjl
                          have hjT : j < T.length := by rw [HM.out.2.2.2.1]; exact hjl
                          have o17 := HJ.out.trans ho17 (H := []) (by simp) (by simp)
                          have k17 : w17.cell? ⟨wq.heap.size, j, none⟩ = some (.bool (ag.getD j false)) := by rw [(HB.out.2.1.only o17 (by simp)).cell, bools_get (by rw [HX.out.2.1.2.1]; exact hjl)]
                          have k13 : w17.cell? ⟨w9.heap.size + 1, j, none⟩ = some (.int .i64 (T.getD j 0)) := by rw [(HB.out.2.2.2.1.only o17 (by simp)).cell, ints_get hjT]
                          have hej := flat_ext Bk.size_cells (show m[j]? = some (m.getD j Bk.zero) by simp [List.getD, List.getElem?_eq_getElem hjm]) 0 64 (by omega)
                          simp only [Nat.add_zero, Nat.zero_add, Bk.ext_cells] at hej
                          have r1 : ∀ cs, row (w17.alloc (Obj.cells cs 45)).drew w9.heap.size (j * 64) 64 = some (m.getD j Bk.zero).cells := fun cs => by
                            rw [(((HB.out.2.2.1.only o17 (by simp)).alloc _).drew).row (j * 64) 64 (by rw [size_bks]; omega)]
                            exact congrArg some hej
                          have l17 := (HB.out.2.1.only o17 (by simp)).lt
                          have l12 := (HB.out.2.2.1.only o17 (by simp)).lt
                          have l13 := (HB.out.2.2.2.1.only o17 (by simp)).lt
                          have hmT := HM.out.2.2.2.2.1 j hjl
                          have hsr := fun h => still_rd HX.out.2.1 HT.out.2.2.2.2.2 hjl (k := j) h
                          rw [← hmT.1, ← hmT.2] at hsr
                          have r2 : ∀ B : Bk, row (w17.alloc (Obj.cells B.cells 45)).drew w17.heap.size 0 64 = some B.cells := fun B => by rw [((Blk.new w17 45 B.cells).drew).row 0 64 (by simp), Bk.ext_cells]
                          generalize m.getD j Bk.zero = mb at r1 hsr hej hmT
                          generalize T.getD j 0 = te at k13 hsr hmT
                          cases hag : ag.getD j false with
                          | false =>
                            rw [hag] at k17
                            rw [(hsr hag).1, (hsr hag).2]
                            have r1' := r1 mb.cells
                            have r2' := r2 mb
                            have HO17 := hide (And.intro o17 (And.intro hsr (And.intro hmT (And.intro hej (And.intro r1 (And.intro r2 hag))))))
                            clear o17 ho17 hsr hmT hej r1 r2 hag
                            go_wp2_with fail
                            refine wp_lone (by kernel_rfl) (by kernel_rfl) ?_
                            repeat still_step
                            refine wpStill_nil ?_
                            go_wp2
                            go_roundw
                            case rel => exact ⟨j + 1, by omega, by go_num, (HO17.out.1.alloc _).drew⟩
                            case measure => simp [intOf]; omega
                          | true =>
                            rw [hag] at k17
                            generalize rdB L [] (j : Int) = rb at hsr ⊢
                            generalize rdE L [] (j : Int) = re at hsr ⊢
                            have HO17 := hide (And.intro o17 (And.intro hsr (And.intro hmT (And.intro hej (And.intro r1 (And.intro r2 hag))))))
                            clear o17 ho17 hsr hmT hej r1 r2 hag
                            go_wp2_with fail
                            go_quiet (fail)
                            go_wp2
                            go_roundw
                            case rel => exact ⟨j + 1, by omega, by go_num, (HO17.out.1.alloc _).drewN _⟩
                            case measure => simp [intOf]; omega
                        · have hj30 : j = 30 := by omega
                          subst hj30
                          go_wp2_with fail
                          refine (waiting_any _ p F7 L [] (HB.out.1.only HJ.out (by simp))).mono ?_
                          rintro e w18 ⟨rfl, rfl⟩
                          simp only [List.length_nil]
                          go_wp2
                          go_ret
                          exact ⟨rfl, HB.out.2.2.2.2.new HJ.out (by simp)⟩
end Go.Proofs.Ytkempjcdapfopaa
