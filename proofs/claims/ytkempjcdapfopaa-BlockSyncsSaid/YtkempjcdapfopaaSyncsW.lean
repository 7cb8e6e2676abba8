/- BlockSyncs, walked: a sync behind each write leaves nothing that a crash could take. Conditions: the steps lie in memory as 'OpsAt' says. -/
import Derived.Test.YtkempjcdapfopaaReadsW
namespace Go.Proofs.Ytkempjcdapfopaa
open Go.RowKit
attribute [local go_sem ↓] Go.wp_at_zero Go.wp_at_succ

/-- the state of the loop over the steps: nothing waits, all is read as it was wanted -/
def SyInv (w wr : World) (p g5 : Nat) : Prop :=
  ∃ L F want, StoreAt wr p F L [] ∧ Blk wr g5 53 (bks want) ∧ Good L [] want ∧ Only [] w wr ∧ ∀ x ∈ F, w.heap.size ≤ x ∧ x ≠ g5
theorem settleL_nil (L : Ls) (f : Nat → Int) (i : Nat) : settleL L [] f i = L := rfl

set_option maxRecDepth 100000 in
set_option maxHeartbeats 16000000 in
theorem syncs_law (w : World) (B : Nat) (v : Value) (l : List OpX) (h : OpsAt w B v l) (hB : B ≤ w.heap.size) (hmax : l.length ≤ 9223372036854775807) :
    Calls Try.prog 7 #[v] w fun e w' => e = .returned (.bool true) ∧ Only [] w w' := by
  have HO := hide h
  obtain ⟨A, c, rfl, _⟩ := h
  go_enter Try.func7, Try.ntmps7
  go_wp2_with fail
  refine (alive_any _).mono ?_
  rintro e w1 ⟨rfl, ho1⟩
  have H1 := hide ho1
  clear ho1
  go_wp2_with fail
  refine (great_any _ B _ l (HO.out.only H1.out hB (by simp)) (by have := H1.out.size; omega) hmax).mono ?_
  rintro e w2 ⟨r, rfl, ho2, hr2⟩
  cases r with
  | true =>
    have H2 := hide ho2
    clear ho2 hr2
    go_wp2
    go_ret
    exact ⟨rfl, H1.out.new H2.out (by simp)⟩
  | false =>
    have H2 := hide (And.intro ho2 (hr2 rfl))
    clear ho2 hr2
    go_wp2_with fail
    refine (new_int _ 30 (by omega) (by omega)).mono ?_
    rintro e w3 ⟨p, F, rfl, hS, ho3, hF⟩
    have H3 := hide (And.intro hS (And.intro ho3 hF))
    clear hS ho3 hF
    go_wp2
    have hg0 : w.heap.size ≤ w3.heap.size := by
      have := H1.out.size
      have := H2.out.1.size
      have := H3.out.2.1.size
      omega
    go_loopw [22] (fun i wr => ∃ k : Nat, k ≤ l.length ∧ i = .int .i64 k ∧ SyInv w wr p w3.heap.size) (fun i _ => l.length - (intOf i).toNat)
    case atStart =>
      refine ⟨0, Nat.zero_le _, rfl, _, F, bk30, H3.out.1.only ((Only.refl [] w3).alloc _) (by simp), Blk.new w3 53 _, good_new, ((H1.out.new H2.out.1 (by simp)).new H3.out.2.1 (by simp)).alloc _, fun x hx => ⟨?_, ?_⟩⟩
      · have := H3.out.2.2 x hx
        have := H1.out.size
        have := H2.out.1.size
        omega
      · have := H3.out.1.lt x hx
        omega
    case round =>
      obtain ⟨k, hk, rfl, hinv⟩ := hrel
      obtain ⟨wo, rfl⟩ : ∃ wo : World, wo = wr := ⟨_, rfl⟩
      have HI := hide hinv
      clear hinv
      by_cases hlt : k < l.length
      · obtain ⟨L, F', want, hS, hb, hg, ho, hF⟩ := HI.out
        have hsz := ho.size
        have hOA := HO.out.only ho hB (by simp)
        obtain ⟨b, o, Ab, nb, cb, Af, nf, cf, rfl, hbB, c0, c1, c2, c3, hv⟩ := hOA.at_ hlt
        have hxm := H2.out.2.1 l[k] (List.getElem_mem hlt)
        generalize hx : l[k] = x at *
        have HX := hide (And.intro hS (And.intro hb (And.intro hg (And.intro ho (And.intro hF (And.intro hv hxm))))))
        clear hS hb hg ho hF hv hxm hx hOA
        by_cases h1 : x.kind = 1
        · have h1' : (x.kind == 1) = true := by simp [h1]
          have h3' : (x.kind == 3) = false := by simp [h1]
          have HK := hide h1
          clear h1
          go_wp2_with fail
          have ob : Only [] wo (wo.alloc (Obj.cells #[.int .i64 x.kind, .int .i64 x.at_, .slice Ab nb cb, .slice Af nf cf] 34)) := (Only.refl [] wo).alloc _
          refine (do_any _ p B F' L [] x (.slice Ab nb cb) (.slice Af nf cf) (HX.out.1.only ob (by simp)) (HX.out.2.2.2.2.2.1.only ob (by omega) (by simp)) (by have := ob.size; omega) (fun y hy => by have := (HX.out.2.2.2.2.1 y hy).1; omega) HX.out.2.2.2.2.2.2.2).mono ?_
          rintro e w5 ⟨rfl, F5, hS5, ho5, hF5⟩
          have hg5 : w3.heap.size ∉ F' := fun hm => (HX.out.2.2.2.2.1 _ hm).2 rfl
          have hbx : wo.heap.size ∉ F' := fun hm => by have := HX.out.1.lt _ hm; omega
          have hB5 : Blk w5 w3.heap.size 53 (bks want) := (HX.out.2.1.alloc _).only ho5 hg5
          have hX5 : Blk w5 wo.heap.size 34 #[.int .i64 x.kind, .int .i64 x.at_, .slice Ab nb cb, .slice Af nf cf] := (Blk.new wo 34 _).only ho5 hbx
          have hO5 : Only [] w w5 := (HX.out.2.2.2.1.new ob (by simp)).new ho5 (fun y hy => (HX.out.2.2.2.2.1 y hy).1)
          have hF5' : ∀ y ∈ F5, w.heap.size ≤ y ∧ y ≠ w3.heap.size := fun y hy => by
            rcases hF5 y hy with h | h
            · exact HX.out.2.2.2.2.1 y h
            · have := HX.out.2.1.lt
              have := ob.size
              omega
          have HV := hide (HX.out.2.2.2.2.2.1.only (ob.trans ho5 (H := F') (by simp) (fun y hy _ => hy)) (by omega) (fun y hy => by have := (HX.out.2.2.2.2.1 y hy).1; omega))
          clear ho5 hF5 ob
          have h1 := HK.out
          have eL : stL L [] x = L := by unfold stL; rw [if_neg (by omega), if_neg (by omega)]
          have eW : stW L [] x = wrW L [] x.at_ (ofB x.b x.hb) := by unfold stW; rw [if_pos h1]
          have eE' : stE L [] x = wrE L [] x.at_ := by unfold stE; rw [if_pos h1]
          rw [eL, eW] at hS5
          by_cases he : wrE L [] x.at_ = 0
          · have eE : stE L [] x = 0 := by rw [eE']; exact he
            rw [eE]
            obtain ⟨hgd, n, hn, hn30⟩ := good_write (b := ofB x.b x.hb) HX.out.2.2.1 he
            have eW2 : wrW L [] x.at_ (ofB x.b x.hb) = [(n, ofB x.b x.hb)] := by unfold wrW; rw [if_pos he, hn]; rfl
            rw [eW2] at hS5 hgd
            have HB5 := hide (And.intro hS5 (And.intro hB5 (And.intro hgd (And.intro hO5 (And.intro hF5' (And.intro hX5 hn))))))
            have HE := hide (And.intro h1 (And.intro he (And.intro eE (And.intro eL (And.intro eW (And.intro eW2 eE'))))))
            clear hS5 hB5 hgd hO5 hF5' hX5 hn h1 he eE eL eW eW2 eE'
            go_upto_region 13 with fail
            have k1 : w5.cell? ⟨wo.heap.size, 1, none⟩ = some (.int .i64 n) := by rw [HB5.out.2.2.2.2.2.1.cell]; simp [HB5.out.2.2.2.2.2.2]
            have k2 : w5.cell? ⟨wo.heap.size, 2, none⟩ = some (.slice Ab nb cb) := by rw [HB5.out.2.2.2.2.2.1.cell]; rfl
            go_cut [] (fun wx => StoreAt wx p F5 L [(n, ofB x.b x.hb)] ∧ Blk wx w3.heap.size 53 (bks (want.set x.at_.toNat (ofB x.b x.hb))) ∧ Only [] w wx ∧ Only [w3.heap.size] w5 wx)
            case first =>
              have l5 : wo.heap.size < w5.heap.size := HB5.out.2.2.2.2.2.1.lt
              have lg : w3.heap.size < w5.heap.size := HB5.out.2.1.lt
              have ls : B ≤ w5.heap.size := by have := HB5.out.2.2.2.1.size; omega
              have vB : Bytes w5.drew B (.slice Ab nb cb) x.b := HV.out.1.only ((Only.refl [] w5).drew) ls (by simp)
              have vm : x.b.length ≤ 1000000 := by have := HX.out.2.2.2.2.2.2.2; omega
              go_region_with
                ((go_at_call 20
                  refine (of_any _ B _ x.b vB x.hb vm ls).mono ?_
                  rintro e wy ⟨rfl, hoy⟩
                  have ky : wy.cell? ⟨wo.heap.size, 1, none⟩ = some (.int .i64 n) := by rw [(HB5.out.2.2.2.2.2.1.drew.only hoy (by simp)).cell]; simp [HB5.out.2.2.2.2.2.2]
                  have hpt : canPut wy w3.heap.size (n * 64) 64 = true := (HB5.out.2.1.drew.only hoy (by simp)).canPut _ _ (by rw [size_bks, HX.out.2.2.1.2.1]; omega)))
              all_goals go_wp2_with fail
              all_goals go_meet
              all_goals
                have hnw : n < want.length := by rw [HX.out.2.2.1.2.1]; exact hn30
                have og : Only [w3.heap.size] wy (put wy w3.heap.size (n * 64) (ofB x.b x.hb).cells) := (Only.refl _ _).put (.inl (by simp)) _ _
                have od : Only [] w5 wy := ((Only.refl [] w5).drew).trans hoy (by simp) (by simp)
                refine ⟨(HB5.out.1.only od (by simp)).only og (fun y hy => by simp; exact (HB5.out.2.2.2.2.1 y hy).2), ?_, (HB5.out.2.2.2.1.new od (by simp)).new og (by simp; exact hg0), od.trans og (by simp) (fun y hy _ => hy)⟩
                have hb := (HB5.out.2.1.only od (by simp)).put_ (n * 64) (ofB x.b x.hb).cells
                have e1 : x.at_.toNat = n := by rw [HB5.out.2.2.2.2.2.2]; rfl
                rw [show splice (bks want) (n * 64) (ofB x.b x.hb).cells = bks (want.set n (ofB x.b x.hb)) from flat_set Bk.size_cells hnw _] at hb
                rw [e1]
                exact hb
            case rest =>
              obtain ⟨hSc, hBc, hOc, hO2⟩ := hcut
              have HC := hide (And.intro hSc (And.intro hBc (And.intro hOc hO2)))
              clear hSc hBc hOc hO2
              have kx : wc.cell? ⟨wo.heap.size, 0, none⟩ = some (.int .i64 x.kind) := by
                have hb5 := HB5.out.2.2.2.2.2.1.only HC.out.2.2.2 (by simp; have := HX.out.2.1.lt; omega)
                rw [hb5.cell]; rfl
              go_wp2_with fail
              refine (waiting_any _ p F5 L _ HC.out.1).mono ?_
              rintro e w6 ⟨rfl, rfl⟩
              simp only [List.length_cons, List.length_nil]
              go_wp2_with fail
              refine (sync_any _ p F5 L _ HC.out.1).mono ?_
              rintro e w7 ⟨rfl, F7, hS7, ho7, hF7⟩
              have HB := hide (And.intro hS7 (And.intro (HC.out.2.1.only ho7 (fun hm => (HB5.out.2.2.2.2.1 _ hm).2 rfl)) (And.intro (good_sync HB5.out.2.2.1 HC.out.1.inn) (And.intro (HC.out.2.2.1.new ho7 (fun y hy => (HB5.out.2.2.2.2.1 y hy).1)) (show ∀ y ∈ F7, w.heap.size ≤ y ∧ y ≠ w3.heap.size from fun y hy => by
                rcases hF7 y hy with h | h
                · exact HB5.out.2.2.2.2.1 y h
                · have := HC.out.2.1.lt
                  have := HC.out.2.2.1.size
                  omega)))))
              clear hS7 ho7 hF7
              have hrw : row w7 w3.heap.size 0 1920 = some (bks (want.set x.at_.toNat (ofB x.b x.hb))) := by rw [HB.out.2.1.row 0 1920 (by have := HB.out.2.2.1.2.1; rw [size_bks]; omega), bks_full HB.out.2.2.1.2.1]
              go_wp2
              go_loopw [55] (fun i wr => ∃ j : Nat, j ≤ 30 ∧ i = .int .i64 j ∧ Only [] w7 wr) (fun i _ => 30 - (intOf i).toNat)
              case atStart => exact ⟨0, Nat.zero_le _, rfl, Only.refl _ _⟩
              case round =>
                obtain ⟨j, hj, rfl, hoj⟩ := hrel
                have HJ := hide hoj
                clear hoj hrw
                by_cases hjl : j < 30
                · have hij := fun wy => run_index53 wy (want.set x.at_.toNat (ofB x.b x.hb)) j HB.out.2.2.1.2.1 hjl
                  have hrd := HB.out.2.2.1.2.2 j hjl
                  generalize hbj : ((want.set x.at_.toNat (ofB x.b x.hb))).getD j Bk.zero = bj at hij hrd
                  have HR := hide hrd
                  clear hrd hbj
                  go_wp2_with fail
                  refine (read_any _ p F7 (settleL L [(n, ofB x.b x.hb)] (fun _ => 1) 0) [] j (HB.out.1.only (HJ.out.alloc _) (by simp))).mono ?_
                  rintro e wy ⟨rfl, hoy⟩
                  have l9 : wr.heap.size < wy.heap.size := ((Blk.new wr 45 bj.cells).only hoy (by simp)).lt
                  have hr9 : row wy wr.heap.size 0 64 = some bj.cells := by rw [((Blk.new wr 45 _).only hoy (by simp)).row 0 64 (by simp), Bk.ext_cells]
                  rw [HR.out.1, HR.out.2]
                  have HY := hide hoy
                  clear hoy
                  go_wp2
                  go_roundw
                  case rel => exact ⟨j + 1, by omega, by go_num, (HJ.out.alloc _).new (HY.out.alloc _) (by simp)⟩
                  case measure => simp [intOf]; omega
                · have hj30 : j = 30 := by omega
                  subst hj30
                  go_wp2
                  go_roundw
                  case rel => exact ⟨k + 1, by omega, by go_num, _, _, _, HB.out.1.only HJ.out (by simp), HB.out.2.1.only HJ.out (by simp), HB.out.2.2.1, HB.out.2.2.2.1.new HJ.out (by simp), HB.out.2.2.2.2⟩
                  case measure => simp [intOf]; omega
          · have eE : (stE L [] x == 0) = false := by rw [eE']; simp [he]
            have eW2 : wrW L [] x.at_ (ofB x.b x.hb) = [] := by unfold wrW; rw [if_neg he]
            rw [eW2] at hS5
            have HC := hide (And.intro hS5 (And.intro hB5 (And.intro hO5 hF5')))
            have HE := hide (And.intro h1 (And.intro he (And.intro eL (And.intro eW (And.intro eW2 eE')))))
            clear hS5 hB5 hO5 hF5' hX5 h1 he eL eW eW2 eE'
            go_wp2_with fail
            refine (waiting_any _ p F5 L _ HC.out.1).mono ?_
            rintro e w6 ⟨rfl, rfl⟩
            simp only [List.length_nil]
            go_wp2_with fail
            refine (sync_any _ p F5 L _ HC.out.1).mono ?_
            rintro e w7 ⟨rfl, F7, hS7, ho7, hF7⟩
            rw [settleL_nil] at hS7
            have HB := hide (And.intro hS7 (And.intro (HC.out.2.1.only ho7 (fun hm => (HC.out.2.2.2 _ hm).2 rfl)) (And.intro HX.out.2.2.1 (And.intro (HC.out.2.2.1.new ho7 (fun y hy => (HC.out.2.2.2 y hy).1)) (show ∀ y ∈ F7, w.heap.size ≤ y ∧ y ≠ w3.heap.size from fun y hy => by
              rcases hF7 y hy with h | h
              · exact HC.out.2.2.2 y h
              · have := HC.out.2.1.lt
                have := HC.out.2.2.1.size
                omega)))))
            clear hS7 ho7 hF7
            have hrw : row w7 w3.heap.size 0 1920 = some (bks want) := by rw [HB.out.2.1.row 0 1920 (by have := HB.out.2.2.1.2.1; rw [size_bks]; omega), bks_full HB.out.2.2.1.2.1]
            go_wp2
            go_loopw [55] (fun i wr => ∃ j : Nat, j ≤ 30 ∧ i = .int .i64 j ∧ Only [] w7 wr) (fun i _ => 30 - (intOf i).toNat)
            case atStart => exact ⟨0, Nat.zero_le _, rfl, Only.refl _ _⟩
            case round =>
              obtain ⟨j, hj, rfl, hoj⟩ := hrel
              have HJ := hide hoj
              clear hoj hrw
              by_cases hjl : j < 30
              · have hij := fun wy => run_index53 wy want j HB.out.2.2.1.2.1 hjl
                have hrd := HB.out.2.2.1.2.2 j hjl
                generalize hbj : (want).getD j Bk.zero = bj at hij hrd
                have HR := hide hrd
                clear hrd hbj
                go_wp2_with fail
                refine (read_any _ p F7 L [] j (HB.out.1.only (HJ.out.alloc _) (by simp))).mono ?_
                rintro e wy ⟨rfl, hoy⟩
                have l9 : wr.heap.size < wy.heap.size := ((Blk.new wr 45 bj.cells).only hoy (by simp)).lt
                have hr9 : row wy wr.heap.size 0 64 = some bj.cells := by rw [((Blk.new wr 45 _).only hoy (by simp)).row 0 64 (by simp), Bk.ext_cells]
                rw [HR.out.1, HR.out.2]
                have HY := hide hoy
                clear hoy
                go_wp2
                go_roundw
                case rel => exact ⟨j + 1, by omega, by go_num, (HJ.out.alloc _).new (HY.out.alloc _) (by simp)⟩
                case measure => simp [intOf]; omega
              · have hj30 : j = 30 := by omega
                subst hj30
                go_wp2
                go_roundw
                case rel => exact ⟨k + 1, by omega, by go_num, _, _, _, HB.out.1.only HJ.out (by simp), HB.out.2.1.only HJ.out (by simp), HB.out.2.2.1, HB.out.2.2.2.1.new HJ.out (by simp), HB.out.2.2.2.2⟩
                case measure => simp [intOf]; omega
        · have h1' : (x.kind == 1) = false := by simp [h1]
          by_cases h3 : x.kind = 3
          · have h3' : (x.kind == 3) = true := by simp [h3]
            have HE := hide (And.intro h1 h3)
            clear h1 h3
            go_wp2_with fail
            have ob : Only [] wo (wo.alloc (Obj.cells #[.int .i64 x.kind, .int .i64 x.at_, .slice Ab nb cb, .slice Af nf cf] 34)) := (Only.refl [] wo).alloc _
            refine (crash_any _ p B F' L [] _ x.f (HX.out.1.only ob (by simp)) (HX.out.2.2.2.2.2.1.2.only ob (by omega) (by simp)) (by have := ob.size; omega) (fun y hy => by have := (HX.out.2.2.2.2.1 y hy).1; omega)).mono ?_
            rintro e w7 ⟨rfl, F7, hS7, ho7, hF7⟩
            rw [settleL_nil] at hS7
            have hg5 : w3.heap.size ∉ F' := fun hm => (HX.out.2.2.2.2.1 _ hm).2 rfl
            have HB := hide (And.intro hS7 (And.intro ((HX.out.2.1.alloc _).only ho7 hg5) (And.intro HX.out.2.2.1 (And.intro ((HX.out.2.2.2.1.new ob (by simp)).new ho7 (fun y hy => (HX.out.2.2.2.2.1 y hy).1)) (show ∀ y ∈ F7, w.heap.size ≤ y ∧ y ≠ w3.heap.size from fun y hy => by
              rcases hF7 y hy with h | h
              · exact HX.out.2.2.2.2.1 y h
              · have := HX.out.2.1.lt
                have := ob.size
                omega)))))
            clear hS7 ho7 hF7 ob
            have hrw : row w7 w3.heap.size 0 1920 = some (bks want) := by rw [HB.out.2.1.row 0 1920 (by have := HB.out.2.2.1.2.1; rw [size_bks]; omega), bks_full HB.out.2.2.1.2.1]
            go_wp2
            go_loopw [55] (fun i wr => ∃ j : Nat, j ≤ 30 ∧ i = .int .i64 j ∧ Only [] w7 wr) (fun i _ => 30 - (intOf i).toNat)
            case atStart => exact ⟨0, Nat.zero_le _, rfl, Only.refl _ _⟩
            case round =>
              obtain ⟨j, hj, rfl, hoj⟩ := hrel
              have HJ := hide hoj
              clear hoj hrw
              by_cases hjl : j < 30
              · have hij := fun wy => run_index53 wy want j HB.out.2.2.1.2.1 hjl
                have hrd := HB.out.2.2.1.2.2 j hjl
                generalize hbj : (want).getD j Bk.zero = bj at hij hrd
                have HR := hide hrd
                clear hrd hbj
                go_wp2_with fail
                refine (read_any _ p F7 L [] j (HB.out.1.only (HJ.out.alloc _) (by simp))).mono ?_
                rintro e wy ⟨rfl, hoy⟩
                have l9 : wr.heap.size < wy.heap.size := ((Blk.new wr 45 bj.cells).only hoy (by simp)).lt
                have hr9 : row wy wr.heap.size 0 64 = some bj.cells := by rw [((Blk.new wr 45 _).only hoy (by simp)).row 0 64 (by simp), Bk.ext_cells]
                rw [HR.out.1, HR.out.2]
                have HY := hide hoy
                clear hoy
                go_wp2
                go_roundw
                case rel => exact ⟨j + 1, by omega, by go_num, (HJ.out.alloc _).new (HY.out.alloc _) (by simp)⟩
                case measure => simp [intOf]; omega
              · have hj30 : j = 30 := by omega
                subst hj30
                go_wp2
                go_roundw
                case rel => exact ⟨k + 1, by omega, by go_num, _, _, _, HB.out.1.only HJ.out (by simp), HB.out.2.1.only HJ.out (by simp), HB.out.2.2.1, HB.out.2.2.2.1.new HJ.out (by simp), HB.out.2.2.2.2⟩
                case measure => simp [intOf]; omega
          · have h3' : (x.kind == 3) = false := by simp [h3]
            have HE := hide (And.intro h1 h3)
            clear h1 h3
            have hb9 := HX.out.2.1.alloc (Obj.cells #[.int .i64 x.kind, .int .i64 x.at_, .slice Ab nb cb, .slice Af nf cf] 34)
            have HB := hide (And.intro (HX.out.1.only ((Only.refl [] wo).alloc (Obj.cells #[.int .i64 x.kind, .int .i64 x.at_, .slice Ab nb cb, .slice Af nf cf] 34)) (by simp)) (And.intro hb9 (And.intro HX.out.2.2.1 (And.intro (HX.out.2.2.2.1.alloc (Obj.cells #[.int .i64 x.kind, .int .i64 x.at_, .slice Ab nb cb, .slice Af nf cf] 34)) HX.out.2.2.2.2.1))))
            clear hb9
            have hrw : row (wo.alloc (Obj.cells #[.int .i64 x.kind, .int .i64 x.at_, .slice Ab nb cb, .slice Af nf cf] 34)) w3.heap.size 0 1920 = some (bks want) := by rw [HB.out.2.1.row 0 1920 (by have := HB.out.2.2.1.2.1; rw [size_bks]; omega), bks_full HB.out.2.2.1.2.1]
            go_wp2
            go_loopw [55] (fun i wr => ∃ j : Nat, j ≤ 30 ∧ i = .int .i64 j ∧ Only [] (wo.alloc (Obj.cells #[.int .i64 x.kind, .int .i64 x.at_, .slice Ab nb cb, .slice Af nf cf] 34)) wr) (fun i _ => 30 - (intOf i).toNat)
            case atStart => exact ⟨0, Nat.zero_le _, rfl, Only.refl _ _⟩
            case round =>
              obtain ⟨j, hj, rfl, hoj⟩ := hrel
              have HJ := hide hoj
              clear hoj hrw
              by_cases hjl : j < 30
              · have hij := fun wy => run_index53 wy want j HB.out.2.2.1.2.1 hjl
                have hrd := HB.out.2.2.1.2.2 j hjl
                generalize hbj : (want).getD j Bk.zero = bj at hij hrd
                have HR := hide hrd
                clear hrd hbj
                go_wp2_with fail
                refine (read_any _ p F' L [] j (HB.out.1.only (HJ.out.alloc _) (by simp))).mono ?_
                rintro e wy ⟨rfl, hoy⟩
                have l9 : wr.heap.size < wy.heap.size := ((Blk.new wr 45 bj.cells).only hoy (by simp)).lt
                have hr9 : row wy wr.heap.size 0 64 = some bj.cells := by rw [((Blk.new wr 45 _).only hoy (by simp)).row 0 64 (by simp), Bk.ext_cells]
                rw [HR.out.1, HR.out.2]
                have HY := hide hoy
                clear hoy
                go_wp2
                go_roundw
                case rel => exact ⟨j + 1, by omega, by go_num, (HJ.out.alloc _).new (HY.out.alloc _) (by simp)⟩
                case measure => simp [intOf]; omega
              · have hj30 : j = 30 := by omega
                subst hj30
                go_wp2
                go_roundw
                case rel => exact ⟨k + 1, by omega, by go_num, _, _, _, HB.out.1.only HJ.out (by simp), HB.out.2.1.only HJ.out (by simp), HB.out.2.2.1, HB.out.2.2.2.1.new HJ.out (by simp), HB.out.2.2.2.2⟩
                case measure => simp [intOf]; omega
      · have hge : (l.length : Int) ≤ (k : Int) := by omega
        obtain ⟨L, F', want, hS, hb, hg, ho, hF⟩ := HI.out
        have HS := hide (And.intro hS ho)
        clear hS hb hg ho hF
        go_wp2_with fail
        refine (waiting_any _ p F' L _ HS.out.1).mono ?_
        rintro e w6 ⟨rfl, rfl⟩
        simp only [List.length_nil]
        go_wp2
        go_ret
        exact ⟨rfl, HS.out.2⟩
end Go.Proofs.Ytkempjcdapfopaa
