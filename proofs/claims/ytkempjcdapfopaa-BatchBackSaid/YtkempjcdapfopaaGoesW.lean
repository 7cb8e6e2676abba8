/- BlockGoes, walked: without a fate all that waits goes. Conditions: the steps lie in memory as 'OpsAt' says. -/
import Derived.Test.YtkempjcdapfopaaReadsW
import Derived.BigQuiet
namespace Go.Proofs.Ytkempjcdapfopaa
open Go.RowKit
attribute [local go_sem ↓] Go.wp_at_zero Go.wp_at_succ

/-- the state of the loop over the steps: what lasts is as it was seen behind the last sync -/
def GoInv (w wr : World) (p g5 : Nat) : Prop :=
  ∃ L W F want, StoreAt wr p F L W ∧ Blk wr g5 53 (bks want) ∧ Good L [] want ∧ Only [] w wr ∧ ∀ x ∈ F, w.heap.size ≤ x ∧ x ≠ g5
theorem settleL_none (L : Ls) (W : Ws) : ∀ i, settleL L W (fateOf []) i = L := by
  refine snoc_ind (P := fun W => ∀ i, settleL L W (fateOf []) i = L) (fun _ => rfl) ?_ W
  intro W x ih i
  rw [settleL_snoc, ih]
  rfl
theorem good_dry {L : Ls} {W : Ws} {last m : List Bk} (h : Good L [] last) (hW : ∀ x ∈ W, x.1 < L.length) (hm : m.length = 30)
    (hr : ∀ k : Nat, k < 30 → m.getD k Bk.zero = rdB (settleL L W (fun _ => 1) 0) [] k) : Good (settleL L W (fun _ => 1) 0) [] m := by
  refine ⟨by rw [settleL_len]; exact h.1, hm, fun k hk => ⟨(hr k hk).symm, ?_⟩⟩
  have hk' : k < L.length := by rw [h.1]; exact hk
  rw [(sync_rd hW hk').2, (rd_in hk').2]
  have h0 := (h.2.2 k hk).2
  rw [(rd_in (W := []) hk').2, lastOf_nil] at h0
  cases lastOf W (k : Int) with
  | some b => rfl
  | none => exact h0
theorem wp_lone {P : Program} {id : Nat} {Q : Exit → Act → World → Prop} {a : Act} {w : World} {l : List Oper} (hm : P.follows .mixedOrders = true) (hB : Region.lexB .any l.toArray = true)
    (h : wpStill P l.toArray w.drew (fun a' => Q .normal a' w.drew) l a) : (Code.region id l.toArray true).wp P Q a w := wp_region_still_lit hm hB h
theorem getD_set {α : Type} {m : List α} {j k : Nat} {b d : α} (hj : j < m.length) : (m.set j b).getD k d = if k = j then b else m.getD k d := by
  by_cases h : k = j
  · subst h; simp [List.getD, hj]
  · simp [List.getD, List.getElem?_set, Ne.symm h, h]

set_option maxRecDepth 100000 in
set_option maxHeartbeats 16000000 in
theorem goes_law (w : World) (B : Nat) (v : Value) (l : List OpX) (h : OpsAt w B v l) (hB : B ≤ w.heap.size) (hmax : l.length ≤ 9223372036854775807) :
    Calls Try.prog 6 #[v] w fun e w' => e = .returned (.bool true) ∧ Only [] w w' := by
  have HO := hide h
  obtain ⟨A, c, rfl, _⟩ := h
  go_enter Try.func6, Try.ntmps6
  go_wp2_with fail
  refine (alive_any _).mono ?_
  rintro e w1 ⟨rfl, ho1⟩
  have H1 := hide ho1
  clear ho1
  go_wp2_with fail
  refine (great_any _ B _ l (HO.out.only H1.out hB (by simp)) (by have := H1.out.size; omega) hmax).mono ?_
  rintro e w2 ⟨r, rfl, ho2, hr2⟩
  cases r with
  | true =>
    have H2 := hide ho2
    clear ho2 hr2
    go_wp2
    go_ret
    exact ⟨rfl, H1.out.new H2.out (by simp)⟩
  | false =>
    have H2 := hide (And.intro ho2 (hr2 rfl))
    clear ho2 hr2
    go_wp2_with fail
    refine (new_int _ 30 (by omega) (by omega)).mono ?_
    rintro e w3 ⟨p, F, rfl, hS, ho3, hF⟩
    have H3 := hide (And.intro hS (And.intro ho3 hF))
    clear hS ho3 hF
    go_wp2
    have hg0 : w.heap.size ≤ w3.heap.size := by
      have := H1.out.size
      have := H2.out.1.size
      have := H3.out.2.1.size
      omega
    go_loopw [22] (fun i wr => ∃ k : Nat, k ≤ l.length ∧ i = .int .i64 k ∧ GoInv w wr p w3.heap.size) (fun i _ => l.length - (intOf i).toNat)
    case atStart =>
      refine ⟨0, Nat.zero_le _, rfl, _, _, F, bk30, H3.out.1.only ((Only.refl [] w3).alloc _) (by simp), Blk.new w3 53 _, good_new, ((H1.out.new H2.out.1 (by simp)).new H3.out.2.1 (by simp)).alloc _, fun x hx => ⟨?_, ?_⟩⟩
      · have := H3.out.2.2 x hx
        have := H1.out.size
        have := H2.out.1.size
        omega
      · have := H3.out.1.lt x hx
        omega
    case round =>
      obtain ⟨k, hk, rfl, hinv⟩ := hrel
      obtain ⟨wo, rfl⟩ : ∃ wo : World, wo = wr := ⟨_, rfl⟩
      have HI := hide hinv
      clear hinv
      by_cases hlt : k < l.length
      · obtain ⟨L, W, F', want, hS, hb, hg, ho, hF⟩ := HI.out
        have hsz := ho.size
        have hOA := HO.out.only ho hB (by simp)
        obtain ⟨b, o, Ab, nb, cb, Af, nf, cf, rfl, hbB, c0, c1, c2, c3, hv⟩ := hOA.at_ hlt
        have hxm := H2.out.2.1 l[k] (List.getElem_mem hlt)
        generalize hx : l[k] = x at *
        have HX := hide (And.intro hS (And.intro hb (And.intro hg (And.intro ho (And.intro hF (And.intro hv hxm))))))
        clear hS hb hg ho hF hv hxm hx hOA
        by_cases h1 : x.kind = 1
        · have h1' : (x.kind == 1) = true := by simp [h1]
          have HK := hide h1
          clear h1
          go_wp2_with fail
          have ob : Only [] wo (wo.alloc (Obj.cells #[.int .i64 x.kind, .int .i64 x.at_, .slice Ab nb cb, .slice Af nf cf] 34)) := (Only.refl [] wo).alloc _
          refine (do_any _ p B F' L W x (.slice Ab nb cb) (.slice Af nf cf) (HX.out.1.only ob (by simp)) (HX.out.2.2.2.2.2.1.only ob (by omega) (by simp)) (by have := ob.size; omega) (fun y hy => by have := (HX.out.2.2.2.2.1 y hy).1; omega) HX.out.2.2.2.2.2.2.2).mono ?_
          rintro e w5 ⟨rfl, F5, hS5, ho5, hF5⟩
          have hg5 : w3.heap.size ∉ F' := fun hm => (HX.out.2.2.2.2.1 _ hm).2 rfl
          have hbx : wo.heap.size ∉ F' := fun hm => by have := HX.out.1.lt _ hm; omega
          have hB5 : Blk w5 w3.heap.size 53 (bks want) := (HX.out.2.1.alloc _).only ho5 hg5
          have hX5 : Blk w5 wo.heap.size 34 #[.int .i64 x.kind, .int .i64 x.at_, .slice Ab nb cb, .slice Af nf cf] := (Blk.new wo 34 _).only ho5 hbx
          have hO5 : Only [] w w5 := (HX.out.2.2.2.1.new ob (by simp)).new ho5 (fun y hy => (HX.out.2.2.2.2.1 y hy).1)
          have hF5' : ∀ y ∈ F5, w.heap.size ≤ y ∧ y ≠ w3.heap.size := fun y hy => by
            rcases hF5 y hy with h | h
            · exact HX.out.2.2.2.2.1 y h
            · have := HX.out.2.1.lt
              have := ob.size
              omega
          have HV := hide (HX.out.2.2.2.2.2.1.only (ob.trans ho5 (H := F') (by simp) (fun y hy _ => hy)) (by omega) (fun y hy => by have := (HX.out.2.2.2.2.1 y hy).1; omega))
          clear ho5 hF5 ob
          have h1 := HK.out
          have eL : stL L W x = L := by unfold stL; rw [if_neg (by omega), if_neg (by omega)]
          rw [eL] at hS5
          have HB := hide (And.intro hS5 (And.intro hB5 (And.intro hO5 hF5')))
          have HE := hide (And.intro h1 eL)
          clear hS5 hB5 hO5 hF5' hX5 h1 eL
          go_wp2
          go_roundw
          case rel => exact ⟨k + 1, by omega, by go_num, _, _, _, _, HB.out.1, HB.out.2.1, HX.out.2.2.1, HB.out.2.2.1, HB.out.2.2.2⟩
          case measure => simp [intOf]; omega
        · have h1' : (x.kind == 1) = false := by simp [h1]
          by_cases h2 : x.kind = 2
          · have h2' : (x.kind == 2) = true := by simp [h2]
            have HK := hide (And.intro h1 h2)
            clear h1 h2
            go_wp2_with fail
            have ob : Only [] wo (wo.alloc (Obj.cells #[.int .i64 x.kind, .int .i64 x.at_, .slice Ab nb cb, .slice Af nf cf] 34)) := (Only.refl [] wo).alloc _
            refine (do_any _ p B F' L W x (.slice Ab nb cb) (.slice Af nf cf) (HX.out.1.only ob (by simp)) (HX.out.2.2.2.2.2.1.only ob (by omega) (by simp)) (by have := ob.size; omega) (fun y hy => by have := (HX.out.2.2.2.2.1 y hy).1; omega) HX.out.2.2.2.2.2.2.2).mono ?_
            rintro e w5 ⟨rfl, F5, hS5, ho5, hF5⟩
            have hg5 : w3.heap.size ∉ F' := fun hm => (HX.out.2.2.2.2.1 _ hm).2 rfl
            have hbx : wo.heap.size ∉ F' := fun hm => by have := HX.out.1.lt _ hm; omega
            have hB5 : Blk w5 w3.heap.size 53 (bks want) := (HX.out.2.1.alloc _).only ho5 hg5
            have hX5 : Blk w5 wo.heap.size 34 #[.int .i64 x.kind, .int .i64 x.at_, .slice Ab nb cb, .slice Af nf cf] := (Blk.new wo 34 _).only ho5 hbx
            have hO5 : Only [] w w5 := (HX.out.2.2.2.1.new ob (by simp)).new ho5 (fun y hy => (HX.out.2.2.2.2.1 y hy).1)
            have hF5' : ∀ y ∈ F5, w.heap.size ≤ y ∧ y ≠ w3.heap.size := fun y hy => by
              rcases hF5 y hy with h | h
              · exact HX.out.2.2.2.2.1 y h
              · have := HX.out.2.1.lt
                have := ob.size
                omega
            have HV := hide (HX.out.2.2.2.2.2.1.only (ob.trans ho5 (H := F') (by simp) (fun y hy _ => hy)) (by omega) (fun y hy => by have := (HX.out.2.2.2.2.1 y hy).1; omega))
            clear ho5 hF5 ob
            obtain ⟨h1, h2⟩ := HK.out
            have eL : stL L W x = settleL L W (fun _ => 1) 0 := by unfold stL; rw [if_pos h2]
            have eW : stW L W x = [] := by unfold stW; rw [if_neg h1, if_pos h2]
            rw [eL, eW] at hS5
            have HB := hide (And.intro hS5 (And.intro hB5 (And.intro hO5 hF5')))
            have HE := hide (And.intro h1 (And.intro h2 (And.intro eL eW)))
            clear hS5 hB5 hO5 hF5' hX5 h1 h2 eL eW
            have hg5l : w.heap.size ≤ w3.heap.size := hg0
            go_wp2
            go_loopw [38] (fun i wr => ∃ j : Nat, j ≤ 30 ∧ i = .int .i64 j ∧ ∃ m, Blk wr w3.heap.size 53 (bks m) ∧ m.length = 30 ∧ (∀ i : Nat, i < j → m.getD i Bk.zero = rdB (settleL L W (fun _ => 1) 0) [] i) ∧ Only [w3.heap.size] w5 wr) (fun i _ => 30 - (intOf i).toNat)
            case atStart => exact ⟨0, Nat.zero_le _, rfl, want, HB.out.2.1, HX.out.2.2.1.2.1, fun i hi => absurd hi (Nat.not_lt_zero _), Only.refl _ _⟩
            case round =>
              obtain ⟨j, hj, rfl, hoj⟩ := hrel
              have HJ := hide hoj
              clear hoj
              by_cases hjl : j < 30
              · obtain ⟨m, hbm, hm, hrm, hom⟩ := HJ.out
                have HM := hide (And.intro hbm (And.intro hm (And.intro hrm hom)))
                have HS := hide (HB.out.1.only hom (fun y hy => by simp; exact (HB.out.2.2.2 y hy).2))
                clear hbm hm hrm hom
                go_wp2_with fail
                refine (read_any _ p F5 (settleL L W (fun _ => 1) 0) [] j HS.out).mono ?_
                rintro e wy ⟨rfl, hoy⟩
                have HY := hide hoy
                have hpt : canPut wy w3.heap.size (j * 64) 64 = true := (HM.out.1.only hoy (by simp)).canPut _ _ (by rw [size_bks, HM.out.2.1]; omega)
                clear hoy
                generalize hrb : rdB (settleL L W (fun _ => 1) 0) [] (j : Int) = rb
                generalize hre : rdE (settleL L W (fun _ => 1) 0) [] (j : Int) = re
                have HR := hide (And.intro hrb hre)
                clear hrb hre
                go_wp2
                go_roundw
                case rel =>
                  have hb := (HM.out.1.only HY.out (by simp)).put_ (j * 64) rb.cells
                  rw [show splice (bks m) (j * 64) rb.cells = bks (m.set j rb) from flat_set Bk.size_cells (by rw [HM.out.2.1]; exact hjl) _] at hb
                  refine ⟨j + 1, by omega, by go_num, m.set j rb, hb, by rw [List.length_set]; exact HM.out.2.1, fun i hi => ?_, ?_⟩
                  · rw [getD_set (by rw [HM.out.2.1]; exact hjl)]
                    by_cases hij : i = j
                    · rw [if_pos hij, hij]; exact HR.out.1.symm
                    · rw [if_neg hij]; exact HM.out.2.2.1 i (by omega)
                  · exact (HM.out.2.2.2.trans HY.out (by simp) (by simp)).put (.inl (by simp)) _ _
                case measure => simp [intOf]; omega
              · have hj30 : j = 30 := by omega
                subst hj30
                go_wp2
                go_roundw
                case rel =>
                  obtain ⟨m, hbm, hm, hrm, hom⟩ := HJ.out
                  exact ⟨k + 1, by omega, by go_num, _, _, _, _, HB.out.1.only hom (fun y hy => by simp; exact (HB.out.2.2.2 y hy).2), hbm, good_dry HX.out.2.2.1 HX.out.1.inn hm hrm, HB.out.2.2.1.new hom (by simp; exact hg0), HB.out.2.2.2⟩
                case measure => simp [intOf]; omega
          · have h2' : (x.kind == 2) = false := by simp [h2]
            by_cases h3 : x.kind = 3
            · have h3' : (x.kind == 3) = true := by simp [h3]
              have HE := hide (And.intro h1 (And.intro h2 h3))
              clear h1 h2 h3
              go_wp2_with fail
              have ob : Only [] wo (wo.alloc (Obj.cells #[.int .i64 x.kind, .int .i64 x.at_, .slice Ab nb cb, .slice Af nf cf] 34)) := (Only.refl [] wo).alloc _
              refine (crash_any _ p B F' L W _ [] (HX.out.1.only ob (by simp)) ⟨none, 0, rfl, by simp, by simp⟩ (by have := ob.size; omega) (fun y hy => by have := (HX.out.2.2.2.2.1 y hy).1; omega)).mono ?_
              rintro e w7 ⟨rfl, F7, hS7, ho7, hF7⟩
              rw [settleL_none] at hS7
              have hg5 : w3.heap.size ∉ F' := fun hm => (HX.out.2.2.2.2.1 _ hm).2 rfl
              have HB := hide (And.intro hS7 (And.intro ((HX.out.2.1.alloc _).only ho7 hg5) (And.intro HX.out.2.2.1 (And.intro ((HX.out.2.2.2.1.new ob (by simp)).new ho7 (fun y hy => (HX.out.2.2.2.2.1 y hy).1)) (show ∀ y ∈ F7, w.heap.size ≤ y ∧ y ≠ w3.heap.size from fun y hy => by
                rcases hF7 y hy with h | h
                · exact HX.out.2.2.2.2.1 y h
                · have := HX.out.2.1.lt
                  have := ob.size
                  omega)))))
              clear hS7 ho7 hF7 ob
              go_wp2
              go_loopw [54] (fun i wr => ∃ j : Nat, j ≤ 30 ∧ i = .int .i64 j ∧ Only [] w7 wr) (fun i _ => 30 - (intOf i).toNat)
              case atStart => exact ⟨0, Nat.zero_le _, rfl, Only.refl _ _⟩
              case round =>
                obtain ⟨j, hj, rfl, hoj⟩ := hrel
                have HJ := hide hoj
                clear hoj
                by_cases hjl : j < 30
                · have hrd := HB.out.2.2.1.2.2 j hjl
                  have hxj : want[j]? = some (want.getD j Bk.zero) := by simp [List.getD, List.getElem?_eq_getElem (show j < want.length by rw [HB.out.2.2.1.2.1]; exact hjl)]
                  have hej := flat_ext Bk.size_cells hxj 0 64 (by omega)
                  simp only [Nat.add_zero, Nat.zero_add, Bk.ext_cells] at hej
                  generalize hbj : want.getD j Bk.zero = bj at hrd hxj hej
                  have HR := hide (And.intro hrd hej)
                  clear hrd hbj hxj hej
                  go_wp2_with fail
                  refine (read_any _ p F7 L [] j (HB.out.1.only HJ.out (by simp))).mono ?_
                  rintro e wy ⟨rfl, hoy⟩
                  have oY : Only [] w7 (wy.alloc (Obj.cells bj.cells 45)) := (HJ.out.new hoy (by simp)).alloc _
                  have r1 : row (wy.alloc (Obj.cells bj.cells 45)).drew w3.heap.size (j * 64) 64 = some bj.cells := by
                    rw [((HB.out.2.1.only oY (by simp)).drew).row (j * 64) 64 (by have := HB.out.2.2.1.2.1; rw [size_bks]; omega)]
                    exact congrArg some HR.out.2
                  have r2 : row (wy.alloc (Obj.cells bj.cells 45)).drew wy.heap.size 0 64 = some bj.cells := by rw [((Blk.new wy 45 bj.cells).drew).row 0 64 (by simp), Bk.ext_cells]
                  rw [HR.out.1.1, HR.out.1.2]
                  have HY := hide oY
                  clear hoy oY
                  go_wp2_with fail
                  refine wp_lone (by kernel_rfl) (by kernel_rfl) ?_
                  repeat still_step
                  refine wpStill_nil ?_
                  go_wp2
                  go_roundw
                  case rel => exact ⟨j + 1, by omega, by go_num, HY.out.drew⟩
                  case measure => simp [intOf]; omega
                · have hj30 : j = 30 := by omega
                  subst hj30
                  go_wp2
                  go_roundw
                  case rel => exact ⟨k + 1, by omega, by go_num, _, _, _, _, HB.out.1.only HJ.out (by simp), HB.out.2.1.only HJ.out (by simp), HB.out.2.2.1, HB.out.2.2.2.1.new HJ.out (by simp), HB.out.2.2.2.2⟩
                  case measure => simp [intOf]; omega
            · have h3' : (x.kind == 3) = false := by simp [h3]
              have HE := hide (And.intro h1 (And.intro h2 h3))
              clear h1 h2 h3
              go_wp2
              go_roundw
              case rel =>
                exact ⟨k + 1, by omega, by go_num, L, W, F', want, HX.out.1.only ((Only.refl [] wo).alloc _) (by simp), HX.out.2.1.alloc _, HX.out.2.2.1, HX.out.2.2.2.1.alloc _, HX.out.2.2.2.2.1⟩
              case measure => simp [intOf]; omega
      · have hge : (l.length : Int) ≤ (k : Int) := by omega
        go_wp2
        go_ret
        obtain ⟨L, W, F', want, hS, hb, hg, ho, hF⟩ := HI.out
        exact ⟨rfl, ho⟩
end Go.Proofs.Ytkempjcdapfopaa
