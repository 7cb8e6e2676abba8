/- BlockPlays, walked: the program's store and the document's answer alike, step by step. Conditions: the steps lie in memory as 'OpsAt' says. -/
import Derived.Test.YtkempjcdapfopaaReadsW
import Derived.Test.YtkempjcdapfopaaRefW
import Derived.Test.YtkempjcdapfopaaGoesW
namespace Go.Proofs.Ytkempjcdapfopaa
open Go.RowKit
attribute [local go_sem ↓] Go.wp_at_zero Go.wp_at_succ

/-- both stores, apart from each other and newer than w -/
def Pair2 (w wr : World) (p q : Nat) (L : Ls) (W : Ws) (L1 : Ls) (W1 : Ws) : Prop :=
  ∃ F G, StoreAt wr p F L W ∧ RefAt wr q G L1 W1 ∧ Only [] w wr ∧ (∀ x ∈ F, w.heap.size ≤ x ∧ x ∉ G) ∧ ∀ x ∈ G, w.heap.size ≤ x
theorem Pair2.only {w wr w' : World} {p q : Nat} {L L1 : Ls} {W W1 : Ws} (h : Pair2 w wr p q L W L1 W1) (ho : Only [] wr w') : Pair2 w w' p q L W L1 W1 := by
  obtain ⟨F, G, h1, h2, h3, h4, h5⟩ := h
  exact ⟨F, G, h1.only ho (by simp), h2.only ho (by simp), h3.new ho (by simp), h4, h5⟩
theorem pair_moveS {w wr w' : World} {p q : Nat} {F G : List Nat} {L L1 : Ls} {W W1 : Ws} (hR : RefAt wr q G L1 W1) (ho : Only [] w wr) (hF : ∀ x ∈ F, w.heap.size ≤ x ∧ x ∉ G) (hG : ∀ x ∈ G, w.heap.size ≤ x)
    (hm : Moved wr w' p F L W) : Pair2 w w' p q L W L1 W1 := by
  obtain ⟨F', h1, h2, h3⟩ := hm
  refine ⟨F', G, h1, hR.only h2 (fun x hx hxF => (hF x hxF).2 hx), ho.new h2 (fun x hx => (hF x hx).1), fun x hx => ?_, hG⟩
  rcases h3 x hx with h | h
  · exact hF x h
  · exact ⟨by have := ho.size; omega, fun hg => by have := hR.lt x hg; omega⟩
theorem pair_moveR {w wr w' : World} {p q : Nat} {F G : List Nat} {L L1 : Ls} {W W1 : Ws} (hS : StoreAt wr p F L W) (ho : Only [] w wr) (hF : ∀ x ∈ F, w.heap.size ≤ x ∧ x ∉ G) (hG : ∀ x ∈ G, w.heap.size ≤ x)
    (hm : MovedR wr w' q G L1 W1) : Pair2 w w' p q L W L1 W1 := by
  obtain ⟨G', h1, h2, h3⟩ := hm
  refine ⟨F, G', hS.only h2 (fun x hx => (hF x hx).2), h1, ho.new h2 hG, fun x hx => ⟨(hF x hx).1, fun hg => ?_⟩, fun x hx => ?_⟩
  · rcases h3 x hg with h | h
    · exact (hF x hx).2 h
    · have := hS.lt x hx; omega
  · rcases h3 x hx with h | h
    · exact hG x h
    · have := ho.size; omega

set_option maxRecDepth 100000 in
set_option maxHeartbeats 6400000 in
theorem plays_law (w : World) (B : Nat) (n : Int) (v : Value) (l : List OpX) (h : OpsAt w B v l) (hB : B ≤ w.heap.size) (hmax : l.length ≤ 9223372036854775807) :
    Calls Try.prog 3 #[.int .i64 n, v] w fun e w' => e = .returned (.bool true) ∧ Only [] w w' := by
  have HO := hide h
  obtain ⟨A, c, rfl, _⟩ := h
  go_enter Try.func3, Try.ntmps3
  go_wp2_with fail
  refine (alive_any _).mono ?_
  rintro e w1 ⟨rfl, ho1⟩
  have H1 := hide ho1
  clear ho1
  go_wp2_with fail
  refine (great_any _ B _ l (HO.out.only H1.out hB (by simp)) (by have := H1.out.size; omega) hmax).mono ?_
  rintro e w2 ⟨r, rfl, ho2, hr2⟩
  cases r with
  | true =>
    have H2 := hide ho2
    clear ho2 hr2
    go_wp2
    go_ret
    exact ⟨rfl, H1.out.new H2.out (by simp)⟩
  | false =>
    have H2 := hide (And.intro (H1.out.new ho2 (by simp)) (hr2 rfl))
    clear ho2 hr2
    by_cases hn : 1 ≤ n ∧ n ≤ 4096
    · obtain ⟨m, rfl⟩ := Int.eq_ofNat_of_zero_le (show 0 ≤ n by omega)
      have HN := hide hn
      clear hn
      go_wp2_with fail
      refine (new_yes _ m (by have := HN.out; omega) (by have := HN.out; omega)).mono ?_
      rintro e w3 ⟨p, F, rfl, hS, ho3, hF⟩
      have H3 := hide (And.intro hS (And.intro ho3 hF))
      clear hS ho3 hF
      go_wp2_with fail
      refine (newR_yes _ m (by have := HN.out; omega) (by have := HN.out; omega)).mono ?_
      rintro e w4 ⟨q, G, rfl, hR, ho4, hG⟩
      have hP0 : Pair2 w w4 p q (List.replicate m z0) [] (List.replicate m z0) [] :=
        ⟨F, G, H3.out.1.only ho4 (by simp), hR, (H2.out.1.new H3.out.2.1 (by simp)).new ho4 (by simp), fun x hx => ⟨by have := H3.out.2.2 x hx; have := H2.out.1.size; omega, fun hg => by have := hG x hg; have := H3.out.1.lt x hx; omega⟩,
          fun x hx => by have := hG x hx; have := H2.out.1.size; have := H3.out.2.1.size; omega⟩
      have HP0 := hide hP0
      clear hP0 hR ho4 hG
      go_wp2
      go_loopw [48] (fun i wr => ∃ k : Nat, k ≤ l.length ∧ i = .int .i64 k ∧ ∃ L W, Pair2 w wr p q L W L W) (fun i _ => l.length - (intOf i).toNat)
      case atStart => exact ⟨0, Nat.zero_le _, rfl, _, _, HP0.out⟩
      case round =>
        obtain ⟨k, hk, rfl, hinv⟩ := hrel
        obtain ⟨wo, rfl⟩ : ∃ wo : World, wo = wr := ⟨_, rfl⟩
        have HI := hide hinv
        clear hinv
        by_cases hlt : k < l.length
        · obtain ⟨L, W, F, G, hS, hR, ho, hF, hG⟩ := HI.out
          have hsz := ho.size
          have hOA := HO.out.only ho hB (by simp)
          obtain ⟨b, o, Ab, nb, cb, Af, nf, cf, rfl, hbB, c0, c1, c2, c3, hv⟩ := hOA.at_ hlt
          have hxm := H2.out.2.1 l[k] (List.getElem_mem hlt)
          generalize hx : l[k] = x at *
          have HX := hide (And.intro hS (And.intro hR (And.intro ho (And.intro hF (And.intro hG (And.intro hv hxm))))))
          clear hS hR ho hF hG hv hxm hx hOA
          go_wp2_with fail
          have ob : Only [] wo (wo.alloc (Obj.cells #[.int .i64 x.kind, .int .i64 x.at_, .slice Ab nb cb, .slice Af nf cf] 34)) := (Only.refl [] wo).alloc _
          refine (do_any _ p B F L W x (.slice Ab nb cb) (.slice Af nf cf) (HX.out.1.only ob (by simp)) (HX.out.2.2.2.2.2.1.only ob (by omega) (by simp)) (by have := ob.size; omega) (fun y hy => by have := (HX.out.2.2.2.1 y hy).1; omega) HX.out.2.2.2.2.2.2.2).mono ?_
          rintro e w5 ⟨rfl, hm5⟩
          have hbx : wo.heap.size ∉ F := fun hm => by have := HX.out.1.lt _ hm; omega
          have hX5 : Blk w5 wo.heap.size 34 #[.int .i64 x.kind, .int .i64 x.at_, .slice Ab nb cb, .slice Af nf cf] := (Blk.new wo 34 _).only (by obtain ⟨_, _, h2, _⟩ := hm5; exact h2) hbx
          have hP5 : Pair2 w w5 p q (stL L W x) (stW L W x) L W := pair_moveS (HX.out.2.1.only ob (by simp)) (HX.out.2.2.1.new ob (by simp)) HX.out.2.2.2.1 HX.out.2.2.2.2.1 hm5
          have hv5 : OpVal w5 B x (.slice Ab nb cb) (.slice Af nf cf) := by
            obtain ⟨_, _, h2, _⟩ := hm5
            exact (HX.out.2.2.2.2.2.1.only (ob.trans h2 (H := F) (by simp) (fun y hy _ => hy)) (by omega) (fun y hy => by have := (HX.out.2.2.2.1 y hy).1; omega))
          have k0 : w5.cell? ⟨wo.heap.size, 0, none⟩ = some (.int .i64 x.kind) := by rw [hX5.cell]; rfl
          have H5 := hide (And.intro hX5 (And.intro hP5 (And.intro hv5 HX.out.2.2.2.2.2.2)))
          clear hm5 hbx hX5 hP5 hv5 ob
          by_cases h1 : x.kind = 1
          · have h1' : (x.kind == 1) = true := by simp [h1]
            have eE : stE L W x = wrE L W x.at_ := by unfold stE; rw [if_pos h1]
            have eL : stL L W x = L := by unfold stL; rw [if_neg (by omega), if_neg (by omega)]
            have eW : stW L W x = wrW L W x.at_ (ofB x.b x.hb) := by unfold stW; rw [if_pos h1]
            rw [eE]
            have HP := hide (show Pair2 w w5 p q L (wrW L W x.at_ (ofB x.b x.hb)) L W by rw [← eW]; have h := H5.out.2.1; rw [eL] at h; exact h)
            clear h1 eE eL eW
            generalize hee : wrE L W x.at_ = ee
            have HE := hide hee
            clear hee
            go_upto_region 15 with fail
            have k1 : w5.cell? ⟨wo.heap.size, 1, none⟩ = some (.int .i64 x.at_) := by rw [H5.out.1.cell]; rfl
            have k2 : w5.cell? ⟨wo.heap.size, 2, none⟩ = some (.slice Ab nb cb) := by rw [H5.out.1.cell]; rfl
            have l5 : wo.heap.size < w5.heap.size := H5.out.1.lt
            have ls : B ≤ w5.heap.size := by obtain ⟨_, _, _, _, h3, _⟩ := H5.out.2.1; have := h3.size; omega
            have vB : Bytes w5.drew B (.slice Ab nb cb) x.b := H5.out.2.2.1.1.only ((Only.refl [] w5).drew) ls (by simp)
            have vm : x.b.length ≤ 1000000 := by have := H5.out.2.2.2.2; omega
            obtain ⟨F6, G6, hS6, hR6, ho6, hF6, hG6⟩ := HP.out
            have H6 := hide (And.intro hS6 (And.intro hR6 (And.intro ho6 (And.intro hF6 hG6))))
            clear hS6 hR6 ho6 hF6 hG6
            rw [HE.out.symm]
            go_region_with (first
              | (go_at_call 20
                 refine (of_any _ B _ x.b vB x.hb vm ls).mono ?_
                 rintro e wy ⟨rfl, hoy⟩
                 have ky : wy.cell? ⟨wo.heap.size, 1, none⟩ = some (.int .i64 x.at_) := by rw [(H5.out.1.drew.only hoy (by simp)).cell]; rfl)
              | (go_at_call 19
                 refine (writeR_any _ q G6 L W x.at_ (ofB x.b x.hb) ((H6.out.2.1.only (Only.refl [] _).drew (by simp)).only hoy (by simp))).mono ?_
                 rintro e wz ⟨rfl, hmz⟩))
            all_goals
              have od : Only [] w5 wy := ((Only.refl [] w5).drew).trans hoy (by simp) (by simp)
              have HC := hide (pair_moveR (H6.out.1.only od (by simp)) (H6.out.2.2.1.new od (by simp)) H6.out.2.2.2.1 H6.out.2.2.2.2 hmz)
              clear hmz hoy od k0 k1 k2 ky
              obtain ⟨F6, G6, hS6, hR6, ho6, hF6, hG6⟩ := HC.out
              obtain ⟨lb6, A6, c6, r0, r1, lq6⟩ := hR6.head
              have HS6 := hide (And.intro hS6 ho6)
              clear hS6 hR6 ho6 hF6 hG6
              go_wp2
              refine wp_lone (by kernel_rfl) (by kernel_rfl) ?_
              repeat still_step
              still_call ((waiting_any _ p F6 L (wrW L W x.at_ (ofB x.b x.hb)) (HS6.out.1.only (Only.refl [] _).drew (by simp))).mono (fun e w' hh => ⟨hh.1, hh.2.symm⟩))
              repeat still_step
              still_call ((size_any _ p F6 L (wrW L W x.at_ (ofB x.b x.hb)) (HS6.out.1.only (Only.refl [] _).drew (by simp))).mono (fun e w' hh => ⟨hh.1, hh.2.symm⟩))
              repeat still_step
              refine wpStill_nil ?_
              go_wp2
              go_roundw
              case rel => exact ⟨k + 1, by omega, by go_num, L, (wrW L W x.at_ (ofB x.b x.hb)), HC.out.only (Only.refl [] _).drew⟩
              case measure => simp [intOf]; omega
          · have h1' : (x.kind == 1) = false := by simp [h1]
            have eE : stE L W x = 0 := by unfold stE; rw [if_neg h1]
            rw [eE]
            by_cases h2 : x.kind = 2
            · have h2' : (x.kind == 2) = true := by simp [h2]
              have h3' : (x.kind == 3) = false := by simp [h2]
              have eL : stL L W x = settleL L W (fun _ => 1) 0 := by unfold stL; rw [if_pos h2]
              have eW : stW L W x = [] := by unfold stW; rw [if_neg h1, if_pos h2]
              have HP := hide (show Pair2 w w5 p q (settleL L W (fun _ => 1) 0) [] L W by have h := H5.out.2.1; rw [eL, eW] at h; exact h)
              clear h1 h2 eE eL eW
              obtain ⟨F6, G6, hS6, hR6, ho6, hF6, hG6⟩ := HP.out
              have H6 := hide (And.intro hS6 (And.intro hR6 (And.intro ho6 (And.intro hF6 hG6))))
              clear hS6 hR6 ho6 hF6 hG6
              go_wp2_with fail
              refine (syncR_any _ q G6 L W H6.out.2.1).mono ?_
              rintro e wz ⟨rfl, hmz⟩
              have HC := hide (pair_moveR H6.out.1 H6.out.2.2.1 H6.out.2.2.2.1 H6.out.2.2.2.2 hmz)
              clear hmz
              obtain ⟨F6, G6, hS6, hR6, ho6, hF6, hG6⟩ := HC.out
              obtain ⟨lb6, A6, c6, r0, r1, lq6⟩ := hR6.head
              have HS6 := hide (And.intro hS6 ho6)
              clear hS6 hR6 ho6 hF6 hG6
              go_wp2
              refine wp_lone (by kernel_rfl) (by kernel_rfl) ?_
              repeat still_step
              still_call ((waiting_any _ p F6 (settleL L W (fun _ => 1) 0) [] (HS6.out.1.only (Only.refl [] _).drew (by simp))).mono (fun e w' hh => ⟨hh.1, hh.2.symm⟩))
              repeat still_step
              still_call ((size_any _ p F6 (settleL L W (fun _ => 1) 0) [] (HS6.out.1.only (Only.refl [] _).drew (by simp))).mono (fun e w' hh => ⟨hh.1, hh.2.symm⟩))
              repeat still_step
              refine wpStill_nil ?_
              go_wp2
              go_roundw
              case rel => exact ⟨k + 1, by omega, by go_num, (settleL L W (fun _ => 1) 0), [], HC.out.only (Only.refl [] _).drew⟩
              case measure => simp [intOf]; omega
            · have h2' : (x.kind == 2) = false := by simp [h2]
              by_cases h3 : x.kind = 3
              · have h3' : (x.kind == 3) = true := by simp [h3]
                have eL : stL L W x = settleL L W (fateOf x.f) 0 := by unfold stL; rw [if_neg h2, if_pos h3]
                have eW : stW L W x = [] := by unfold stW; rw [if_neg h1, if_neg h2, if_pos h3]
                have HP := hide (show Pair2 w w5 p q (settleL L W (fateOf x.f) 0) [] L W by have h := H5.out.2.1; rw [eL, eW] at h; exact h)
                clear h1 h2 h3 eE eL eW
                obtain ⟨F6, G6, hS6, hR6, ho6, hF6, hG6⟩ := HP.out
                have H6 := hide (And.intro hS6 (And.intro hR6 (And.intro ho6 (And.intro hF6 hG6))))
                clear hS6 hR6 ho6 hF6 hG6
                have k3 : w5.cell? ⟨wo.heap.size, 3, none⟩ = some (.slice Af nf cf) := by rw [H5.out.1.cell]; rfl
                have l5 : wo.heap.size < w5.heap.size := H5.out.1.lt
                go_wp2_with fail
                refine (crashR_any _ q B G6 L W _ x.f H6.out.2.1 H5.out.2.2.1.2 (by have := H6.out.2.2.1.size; omega) (fun y hy => by have := H6.out.2.2.2.2 y hy; omega)).mono ?_
                rintro e wz ⟨rfl, hmz⟩
                have HC := hide (pair_moveR H6.out.1 H6.out.2.2.1 H6.out.2.2.2.1 H6.out.2.2.2.2 hmz)
                clear hmz k3 k0
                obtain ⟨F6, G6, hS6, hR6, ho6, hF6, hG6⟩ := HC.out
                obtain ⟨lb6, A6, c6, r0, r1, lq6⟩ := hR6.head
                have HS6 := hide (And.intro hS6 ho6)
                clear hS6 hR6 ho6 hF6 hG6
                go_wp2
                refine wp_lone (by kernel_rfl) (by kernel_rfl) ?_
                repeat still_step
                still_call ((waiting_any _ p F6 (settleL L W (fateOf x.f) 0) [] (HS6.out.1.only (Only.refl [] _).drew (by simp))).mono (fun e w' hh => ⟨hh.1, hh.2.symm⟩))
                repeat still_step
                still_call ((size_any _ p F6 (settleL L W (fateOf x.f) 0) [] (HS6.out.1.only (Only.refl [] _).drew (by simp))).mono (fun e w' hh => ⟨hh.1, hh.2.symm⟩))
                repeat still_step
                refine wpStill_nil ?_
                go_wp2
                go_roundw
                case rel => exact ⟨k + 1, by omega, by go_num, (settleL L W (fateOf x.f) 0), [], HC.out.only (Only.refl [] _).drew⟩
                case measure => simp [intOf]; omega
              · have h3' : (x.kind == 3) = false := by simp [h3]
                have eL : stL L W x = L := by unfold stL; rw [if_neg h2, if_neg h3]
                have eW : stW L W x = W := by unfold stW; rw [if_neg h1, if_neg h2, if_neg h3]
                have HC := hide (show Pair2 w w5 p q L W L W by have h := H5.out.2.1; rw [eL, eW] at h; exact h)
                clear h1 h2 h3 eE eL eW
                obtain ⟨F6, G6, hS6, hR6, ho6, hF6, hG6⟩ := HC.out
                obtain ⟨lb6, A6, c6, r0, r1, lq6⟩ := hR6.head
                have HS6 := hide (And.intro hS6 ho6)
                clear hS6 hR6 ho6 hF6 hG6
                go_wp2
                refine wp_lone (by kernel_rfl) (by kernel_rfl) ?_
                repeat still_step
                still_call ((waiting_any _ p F6 L W (HS6.out.1.only (Only.refl [] _).drew (by simp))).mono (fun e w' hh => ⟨hh.1, hh.2.symm⟩))
                repeat still_step
                still_call ((size_any _ p F6 L W (HS6.out.1.only (Only.refl [] _).drew (by simp))).mono (fun e w' hh => ⟨hh.1, hh.2.symm⟩))
                repeat still_step
                refine wpStill_nil ?_
                go_wp2
                go_roundw
                case rel => exact ⟨k + 1, by omega, by go_num, L, W, HC.out.only (Only.refl [] _).drew⟩
                case measure => simp [intOf]; omega
        · have hge : (l.length : Int) ≤ (k : Int) := by omega
          obtain ⟨L, W, hP⟩ := HI.out
          have HP := hide hP
          clear hP
          go_wp2
          go_loopw [13] (fun i wr => ∃ j : Nat, j ≤ 202 ∧ i = .int .i64 ((j : Int) - 1) ∧ Pair2 w wr p q L W L W) (fun i _ => 202 - (intOf i + 1).toNat)
          case atStart => exact ⟨0, Nat.zero_le _, by go_num, HP.out⟩
          case round =>
            obtain ⟨j, hj, rfl, hPj⟩ := hrel
            obtain ⟨F6, G6, hS6, hR6, ho6, hF6, hG6⟩ := hPj
            obtain ⟨lb6, A6, c6, r0, r1, lq6⟩ := hR6.head
            have HJ := hide (And.intro hS6 (And.intro hR6 (And.intro ho6 (And.intro hF6 hG6))))
            clear hS6 hR6 ho6 hF6 hG6
            by_cases hle : (j : Int) - 1 ≤ min (L.length : Int) 200
            · go_wp2_with fail
              all_goals
                refine (read_any _ p F6 L W _ HJ.out.1).mono ?_
                rintro e w7 ⟨rfl, ho7⟩
                have HO7 := hide ho7
                clear ho7
                go_wp2_with fail
                refine (readR_any _ q G6 L W _ ((HJ.out.2.1.only HO7.out (by simp)).only ((Only.refl [] _).alloc _) (by simp))).mono ?_
                rintro e w8 ⟨rfl, ho8⟩
                have HO8 := hide ho8
                clear ho8
                generalize hrb : rdB L W ((j : Int) - 1) = rb at HO8 ⊢
                generalize hre : rdE L W ((j : Int) - 1) = re at HO8 ⊢
                have HR := hide (And.intro hrb hre)
                clear hrb hre
                have q1 : row w8 w7.heap.size 0 64 = some rb.cells := by rw [((Blk.new w7 45 rb.cells).only HO8.out (by simp)).row 0 64 (by simp), Bk.ext_cells]
                have l8 : w7.heap.size < w8.heap.size := ((Blk.new w7 45 rb.cells).only HO8.out (by simp)).lt
                have hj2 : j ≤ 201 := by omega
                clear hle
                go_wp2
                have hP : Pair2 w wr p q L W L W := ⟨F6, G6, HJ.out.1, HJ.out.2.1, HJ.out.2.2.1, HJ.out.2.2.2.1, HJ.out.2.2.2.2⟩
                refine ⟨⟨j + 1, by omega, by go_num, ((hP.only HO7.out).only (((Only.refl [] _).alloc _).trans HO8.out (H := []) (by simp) (by simp))).only ((Only.refl [] _).alloc _)⟩, ?_⟩
                simp only [intOf]
                omega
            · go_wp2
              all_goals
                go_ret
                exact ⟨rfl, HJ.out.2.2.1⟩
    · have HN := hide hn
      have hn' : n < 1 ∨ 4096 < n := by omega
      clear hn
      have HM := hide hn'
      clear hn'
      go_wp2_with fail
      refine (new_no _ n HM.out).mono ?_
      rintro e w3 ⟨rfl, rfl⟩
      go_wp2_with fail
      refine (newR_no _ n HM.out).mono ?_
      rintro e w3 ⟨rfl, rfl⟩
      go_wp2
      go_ret
      exact ⟨rfl, H2.out.1⟩
end Go.Proofs.Ytkempjcdapfopaa
