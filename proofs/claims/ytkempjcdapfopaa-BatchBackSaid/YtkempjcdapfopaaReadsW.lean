/- BlockReads, walked: what is written is read, at once. Conditions: the steps lie in memory as 'OpsAt' says. -/
import Derived.Test.YtkempjcdapfopaaPlain
import Derived.Deep.DeepCutAuto
namespace Go.Proofs.Ytkempjcdapfopaa
open Go.RowKit
attribute [local go_sem ↓] Go.wp_at_zero Go.wp_at_succ

theorem StoreAt.inn {w : World} {p : Nat} {F : List Nat} {L : Ls} {W : Ws} (h : StoreAt w p F L W) : ∀ x ∈ W, x.1 < L.length := by
  obtain ⟨_, _, _, _, _, _, _, _, hr⟩ := h; exact hr.2.2
theorem bks_full {l : List Bk} (h : l.length = 30) : (bks l).extract 0 1920 = bks l := by
  apply Array.ext'
  simp only [Array.toList_extract, List.extract_eq_take_drop, List.drop_zero]
  exact List.take_of_length_le (by have := size_bks l; simp; omega)
theorem only_fresh {w w' : World} {F : List Nat} {b : Nat} (ho : Only F w w') (hb : b < w.heap.size) (hF : ∀ x ∈ F, b < x) : w'.heap[b]? = w.heap[b]? :=
  ho.block b hb (fun hm => by have := hF b hm; omega)

theorem OpsAt.at_ {w : World} {B : Nat} {A : Option Addr} {n c : Nat} {l : List OpX} (h : OpsAt w B (.slice A n c) l) {k : Nat} (hk : k < l.length) :
    ∃ b o Ab nb cb Af nf cf, A = some ⟨b, o, none⟩ ∧ b < B ∧ w.cell? ⟨b, o + k * 4, none⟩ = some (.int .i64 l[k].kind) ∧ w.cell? ⟨b, o + k * 4 + 1, none⟩ = some (.int .i64 l[k].at_) ∧
      w.cell? ⟨b, o + k * 4 + 2, none⟩ = some (.slice Ab nb cb) ∧ w.cell? ⟨b, o + k * 4 + 3, none⟩ = some (.slice Af nf cf) ∧ OpVal w B l[k] (.slice Ab nb cb) (.slice Af nf cf) := by
  obtain ⟨A', c', hv, ha⟩ := h
  injection hv with hA _ _
  subst hA
  obtain ⟨b, o, hA, hb, hc⟩ := ha (by omega)
  obtain ⟨bv, fv, h0, h1, h2, h3, hv⟩ := hc k hk
  obtain ⟨Ab, cb, rfl⟩ := hv.1.val
  obtain ⟨Af, cf, rfl⟩ := hv.2.val
  exact ⟨b, o, Ab, _, cb, Af, _, cf, hA, hb, h0, h1, h2, h3, hv⟩

/-- the state of the loop over the steps -/
def RdInv (w wr : World) (p g5 : Nat) : Prop :=
  ∃ L W F want, StoreAt wr p F L W ∧ Blk wr g5 53 (bks want) ∧ Good L W want ∧ Only [] w wr ∧ ∀ x ∈ F, w.heap.size ≤ x ∧ x ≠ g5

set_option maxRecDepth 100000 in
set_option maxHeartbeats 3200000 in
theorem reads_law (w : World) (B : Nat) (v : Value) (l : List OpX) (h : OpsAt w B v l) (hB : B ≤ w.heap.size) (hmax : l.length ≤ 9223372036854775807) :
    Calls Try.prog 5 #[v] w fun e w' => e = .returned (.bool true) ∧ Only [] w w' := by
  have HO := hide h
  obtain ⟨A, c, rfl, _⟩ := h
  go_enter Try.func5, Try.ntmps5
  go_wp2_with fail
  refine (alive_any _).mono ?_
  rintro e w1 ⟨rfl, ho1⟩
  have H1 := hide ho1
  clear ho1
  go_wp2_with fail
  refine (great_any _ B _ l (HO.out.only H1.out hB (by simp)) (by have := H1.out.size; omega) hmax).mono ?_
  rintro e w2 ⟨r, rfl, ho2, hr2⟩
  cases r with
  | true =>
    have H2 := hide ho2
    clear ho2 hr2
    go_wp2
    go_ret
    exact ⟨rfl, H1.out.new H2.out (by simp)⟩
  | false =>
    have H2 := hide (And.intro ho2 (hr2 rfl))
    clear ho2 hr2
    go_wp2_with fail
    refine (new_int _ 30 (by omega) (by omega)).mono ?_
    rintro e w3 ⟨p, F, rfl, hS, ho3, hF⟩
    have H3 := hide (And.intro hS (And.intro ho3 hF))
    clear hS ho3 hF
    go_wp2
    have hg0 : w.heap.size ≤ w3.heap.size := by
      have := H1.out.size
      have := H2.out.1.size
      have := H3.out.2.1.size
      omega
    go_loopw [22] (fun i wr => ∃ k : Nat, k ≤ l.length ∧ i = .int .i64 k ∧ RdInv w wr p w3.heap.size) (fun i _ => l.length - (intOf i).toNat)
    case atStart =>
      refine ⟨0, Nat.zero_le _, rfl, _, _, F, bk30, H3.out.1.only ((Only.refl [] w3).alloc _) (by simp), Blk.new w3 53 _, good_new, ((H1.out.new H2.out.1 (by simp)).new H3.out.2.1 (by simp)).alloc _, fun x hx => ⟨?_, ?_⟩⟩
      · have := H3.out.2.2 x hx
        have := H1.out.size
        have := H2.out.1.size
        omega
      · have := H3.out.1.lt x hx
        omega
    case round =>
      obtain ⟨k, hk, rfl, hinv⟩ := hrel
      obtain ⟨wo, rfl⟩ : ∃ wo : World, wo = wr := ⟨_, rfl⟩
      have HI := hide hinv
      clear hinv
      by_cases hlt : k < l.length
      · obtain ⟨L, W, F', want, hS, hb, hg, ho, hF⟩ := HI.out
        have hsz := ho.size
        have hOA := HO.out.only ho hB (by simp)
        obtain ⟨b, o, Ab, nb, cb, Af, nf, cf, rfl, hbB, c0, c1, c2, c3, hv⟩ := hOA.at_ hlt
        have hxm := H2.out.2.1 l[k] (List.getElem_mem hlt)
        generalize hx : l[k] = x at *
        have HX := hide (And.intro hS (And.intro hb (And.intro hg (And.intro ho (And.intro hF (And.intro hv hxm))))))
        clear hS hb hg ho hF hv hxm hx hOA
        by_cases h3 : x.kind = 3
        · have h3' : (x.kind == 3) = true := by simp [h3]
          clear h3
          go_wp2
          go_roundw
          case rel =>
            exact ⟨k + 1, by omega, by go_num, L, W, F', want, HX.out.1.only ((Only.refl [] wo).alloc _) (by simp), HX.out.2.1.alloc _, HX.out.2.2.1, HX.out.2.2.2.1.alloc _, HX.out.2.2.2.2.1⟩
          case measure => simp [intOf]; omega
        · have h3' : (x.kind == 3) = false := by simp [h3]
          go_wp2_with fail
          have ob : Only [] wo (wo.alloc (Obj.cells #[.int .i64 x.kind, .int .i64 x.at_, .slice Ab nb cb, .slice Af nf cf] 34)) := (Only.refl [] wo).alloc _
          refine (do_any _ p B F' L W x (.slice Ab nb cb) (.slice Af nf cf) (HX.out.1.only ob (by simp)) (HX.out.2.2.2.2.2.1.only ob (by omega) (by simp)) (by have := ob.size; omega) (fun y hy => by have := (HX.out.2.2.2.2.1 y hy).1; omega) HX.out.2.2.2.2.2.2.2).mono ?_
          rintro e w5 ⟨rfl, F5, hS5, ho5, hF5⟩
          have hg5 : w3.heap.size ∉ F' := fun hm => (HX.out.2.2.2.2.1 _ hm).2 rfl
          have hbx : wo.heap.size ∉ F' := fun hm => by have := HX.out.1.lt _ hm; omega
          have hB5 : Blk w5 w3.heap.size 53 (bks want) := (HX.out.2.1.alloc _).only ho5 hg5
          have hX5 : Blk w5 wo.heap.size 34 #[.int .i64 x.kind, .int .i64 x.at_, .slice Ab nb cb, .slice Af nf cf] := (Blk.new wo 34 _).only ho5 hbx
          have hO5 : Only [] w w5 := (HX.out.2.2.2.1.new ob (by simp)).new ho5 (fun y hy => (HX.out.2.2.2.2.1 y hy).1)
          have hF5' : ∀ y ∈ F5, w.heap.size ≤ y ∧ y ≠ w3.heap.size := fun y hy => by
            rcases hF5 y hy with h | h
            · exact HX.out.2.2.2.2.1 y h
            · have := HX.out.2.1.lt
              have := ob.size
              omega
          have HV := hide (HX.out.2.2.2.2.2.1.only (ob.trans ho5 (H := F') (by simp) (fun y hy _ => hy)) (by omega) (fun y hy => by have := (HX.out.2.2.2.2.1 y hy).1; omega))
          clear ho5 hF5 ob
          by_cases h1 : x.kind = 1
          · have h1' : (x.kind == 1) = true := by simp [h1]
            by_cases he : wrE L W x.at_ = 0
            · have eE : stE L W x = 0 := by unfold stE; rw [if_pos h1]; exact he
              have eL : stL L W x = L := by unfold stL; rw [if_neg (by omega), if_neg (by omega)]
              have eW : stW L W x = wrW L W x.at_ (ofB x.b x.hb) := by unfold stW; rw [if_pos h1]
              rw [eL, eW] at hS5
              rw [eE]
              obtain ⟨hgd, n, hn, hn30⟩ := good_write (b := ofB x.b x.hb) HX.out.2.2.1 he
              have k0 : w5.cell? ⟨wo.heap.size, 0, none⟩ = some (.int .i64 x.kind) := by rw [hX5.cell]; rfl
              have HB5 := hide (And.intro hS5 (And.intro hB5 (And.intro hgd (And.intro hO5 (And.intro hF5' (And.intro hX5 hn))))))
              have HE := hide (And.intro h1 (And.intro he (And.intro eE (And.intro eL eW))))
              clear hS5 hB5 hgd hO5 hF5' hX5 hn h1 he eE eL eW
              go_upto_region 12 with fail
              have k1 : w5.cell? ⟨wo.heap.size, 1, none⟩ = some (.int .i64 n) := by rw [HB5.out.2.2.2.2.2.1.cell]; simp [HB5.out.2.2.2.2.2.2]
              have k2 : w5.cell? ⟨wo.heap.size, 2, none⟩ = some (.slice Ab nb cb) := by rw [HB5.out.2.2.2.2.2.1.cell]; rfl
              go_cut [] (fun wx => StoreAt wx p F5 L (wrW L W x.at_ (ofB x.b x.hb)) ∧ Blk wx w3.heap.size 53 (bks (want.set x.at_.toNat (ofB x.b x.hb))) ∧ Only [] w wx)
              case first =>
                have l5 : wo.heap.size < w5.heap.size := HB5.out.2.2.2.2.2.1.lt
                have lg : w3.heap.size < w5.heap.size := HB5.out.2.1.lt
                have ls : B ≤ w5.heap.size := by have := HB5.out.2.2.2.1.size; omega
                have vB : Bytes w5.drew B (.slice Ab nb cb) x.b := HV.out.1.only ((Only.refl [] w5).drew) ls (by simp)
                have vm : x.b.length ≤ 1000000 := by have := HX.out.2.2.2.2.2.2.2; omega
                go_region_with
                  ((go_at_call 20
                    refine (of_any _ B _ x.b vB x.hb vm ls).mono ?_
                    rintro e wy ⟨rfl, hoy⟩
                    have ky : wy.cell? ⟨wo.heap.size, 1, none⟩ = some (.int .i64 n) := by rw [(HB5.out.2.2.2.2.2.1.drew.only hoy (by simp)).cell]; simp [HB5.out.2.2.2.2.2.2]
                    have hpt : canPut wy w3.heap.size (n * 64) 64 = true := (HB5.out.2.1.drew.only hoy (by simp)).canPut _ _ (by rw [size_bks, HX.out.2.2.1.2.1]; omega)))
                all_goals go_wp2_with fail
                all_goals go_meet
                all_goals
                  have hnw : n < want.length := by rw [HX.out.2.2.1.2.1]; exact hn30
                  have og : Only [w3.heap.size] wy (put wy w3.heap.size (n * 64) (ofB x.b x.hb).cells) := (Only.refl _ _).put (.inl (by simp)) _ _
                  have od : Only [] w5 wy := ((Only.refl [] w5).drew).trans hoy (by simp) (by simp)
                  refine ⟨(HB5.out.1.only od (by simp)).only og (fun y hy => by simp; exact (HB5.out.2.2.2.2.1 y hy).2), ?_, (HB5.out.2.2.2.1.new od (by simp)).new og (by simp; exact hg0)⟩
                  have hb := (HB5.out.2.1.only od (by simp)).put_ (n * 64) (ofB x.b x.hb).cells
                  have e1 : x.at_.toNat = n := by rw [HB5.out.2.2.2.2.2.2]; rfl
                  rw [show splice (bks want) (n * 64) (ofB x.b x.hb).cells = bks (want.set n (ofB x.b x.hb)) from flat_set Bk.size_cells hnw _] at hb
                  rw [e1]
                  exact hb
              case rest =>
                obtain ⟨hSc, hBc, hOc⟩ := hcut
                have HB := hide (And.intro hSc (And.intro hBc (And.intro HB5.out.2.2.1 (And.intro hOc HB5.out.2.2.2.2.1))))
                clear hSc hBc hOc
                have hrw : row wc w3.heap.size 0 1920 = some (bks (want.set x.at_.toNat (ofB x.b x.hb))) := by rw [HB.out.2.1.row 0 1920 (by have := HB.out.2.2.1.2.1; rw [size_bks]; omega), bks_full HB.out.2.2.1.2.1]
                go_wp2
                go_loopw [45] (fun i wr => ∃ j : Nat, j ≤ 30 ∧ i = .int .i64 j ∧ Only [] wc wr) (fun i _ => 30 - (intOf i).toNat)
                case atStart => exact ⟨0, Nat.zero_le _, rfl, Only.refl _ _⟩
                case round =>
                  obtain ⟨j, hj, rfl, hoj⟩ := hrel
                  have HJ := hide hoj
                  clear hoj hrw
                  by_cases hjl : j < 30
                  · have hij := fun wy => run_index53 wy (want.set x.at_.toNat (ofB x.b x.hb)) j HB.out.2.2.1.2.1 hjl
                    have hrd := HB.out.2.2.1.2.2 j hjl
                    generalize hbj : ((want.set x.at_.toNat (ofB x.b x.hb))).getD j Bk.zero = bj at hij hrd
                    have HR := hide hrd
                    clear hrd hbj
                    go_wp2_with fail
                    refine (read_any _ p F5 L (wrW L W x.at_ (ofB x.b x.hb)) j (HB.out.1.only (HJ.out.alloc _) (by simp))).mono ?_
                    rintro e wy ⟨rfl, hoy⟩
                    have l9 : wr.heap.size < wy.heap.size := ((Blk.new wr 45 bj.cells).only hoy (by simp)).lt
                    have hr9 : row wy wr.heap.size 0 64 = some bj.cells := by rw [((Blk.new wr 45 _).only hoy (by simp)).row 0 64 (by simp), Bk.ext_cells]
                    rw [HR.out.1, HR.out.2]
                    have HY := hide hoy
                    clear hoy
                    go_wp2
                    go_roundw
                    case rel => exact ⟨j + 1, by omega, by go_num, (HJ.out.alloc _).new (HY.out.alloc _) (by simp)⟩
                    case measure => simp [intOf]; omega
                  · have hj30 : j = 30 := by omega
                    subst hj30
                    go_wp2
                    go_roundw
                    case rel => exact ⟨k + 1, by omega, by go_num, _, _, _, _, HB.out.1.only HJ.out (by simp), HB.out.2.1.only HJ.out (by simp), HB.out.2.2.1, HB.out.2.2.2.1.new HJ.out (by simp), HB.out.2.2.2.2⟩
                    case measure => simp [intOf]; omega
            · have eE : (stE L W x == 0) = false := by unfold stE; rw [if_pos h1]; simp [he]
              have eL : stL L W x = L := by unfold stL; rw [if_neg (by omega), if_neg (by omega)]
              have eW : stW L W x = wrW L W x.at_ (ofB x.b x.hb) := by unfold stW; rw [if_pos h1]
              rw [eL, eW] at hS5
              have HB := hide (And.intro hS5 (And.intro hB5 (And.intro (good_keep (b := ofB x.b x.hb) HX.out.2.2.1 he) (And.intro hO5 hF5'))))
              have HE := hide (And.intro h1 (And.intro he (And.intro eL eW)))
              clear hS5 hB5 hO5 hF5' hX5 h1 he eL eW
              have hrw : row w5 w3.heap.size 0 1920 = some (bks want) := by rw [HB.out.2.1.row 0 1920 (by have := HB.out.2.2.1.2.1; rw [size_bks]; omega), bks_full HB.out.2.2.1.2.1]
              go_wp2
              go_loopw [45] (fun i wr => ∃ j : Nat, j ≤ 30 ∧ i = .int .i64 j ∧ Only [] w5 wr) (fun i _ => 30 - (intOf i).toNat)
              case atStart => exact ⟨0, Nat.zero_le _, rfl, Only.refl _ _⟩
              case round =>
                obtain ⟨j, hj, rfl, hoj⟩ := hrel
                have HJ := hide hoj
                clear hoj hrw
                by_cases hjl : j < 30
                · have hij := fun wy => run_index53 wy want j HB.out.2.2.1.2.1 hjl
                  have hrd := HB.out.2.2.1.2.2 j hjl
                  generalize hbj : (want).getD j Bk.zero = bj at hij hrd
                  have HR := hide hrd
                  clear hrd hbj
                  go_wp2_with fail
                  refine (read_any _ p F5 L (wrW L W x.at_ (ofB x.b x.hb)) j (HB.out.1.only (HJ.out.alloc _) (by simp))).mono ?_
                  rintro e wy ⟨rfl, hoy⟩
                  have l9 : wr.heap.size < wy.heap.size := ((Blk.new wr 45 bj.cells).only hoy (by simp)).lt
                  have hr9 : row wy wr.heap.size 0 64 = some bj.cells := by rw [((Blk.new wr 45 _).only hoy (by simp)).row 0 64 (by simp), Bk.ext_cells]
                  rw [HR.out.1, HR.out.2]
                  have HY := hide hoy
                  clear hoy
                  go_wp2
                  go_roundw
                  case rel => exact ⟨j + 1, by omega, by go_num, (HJ.out.alloc _).new (HY.out.alloc _) (by simp)⟩
                  case measure => simp [intOf]; omega
                · have hj30 : j = 30 := by omega
                  subst hj30
                  go_wp2
                  go_roundw
                  case rel => exact ⟨k + 1, by omega, by go_num, _, _, _, _, HB.out.1.only HJ.out (by simp), HB.out.2.1.only HJ.out (by simp), HB.out.2.2.1, HB.out.2.2.2.1.new HJ.out (by simp), HB.out.2.2.2.2⟩
                  case measure => simp [intOf]; omega
          · have h1' : (x.kind == 1) = false := by simp [h1]
            have eE : stE L W x = 0 := by unfold stE; rw [if_neg h1]
            rw [eE]
            have k0 : w5.cell? ⟨wo.heap.size, 0, none⟩ = some (.int .i64 x.kind) := by rw [hX5.cell]; rfl
            have hgd : Good (stL L W x) (stW L W x) want := by
              unfold stL stW
              rw [if_neg h1, if_neg h3]
              by_cases h2 : x.kind = 2
              · rw [if_pos h2, if_pos h2]; exact good_sync HX.out.2.2.1 HX.out.1.inn
              · rw [if_neg h2, if_neg h2, if_neg h3]; exact HX.out.2.2.1
            have HB := hide (And.intro hS5 (And.intro hB5 (And.intro hgd (And.intro hO5 hF5'))))
            have HE := hide (And.intro h1 eE)
            clear hS5 hB5 hO5 hF5' hX5 h1 eE hgd
            have hrw : row w5 w3.heap.size 0 1920 = some (bks want) := by rw [HB.out.2.1.row 0 1920 (by have := HB.out.2.2.1.2.1; rw [size_bks]; omega), bks_full HB.out.2.2.1.2.1]
            go_wp2
            go_loopw [45] (fun i wr => ∃ j : Nat, j ≤ 30 ∧ i = .int .i64 j ∧ Only [] w5 wr) (fun i _ => 30 - (intOf i).toNat)
            case atStart => exact ⟨0, Nat.zero_le _, rfl, Only.refl _ _⟩
            case round =>
              obtain ⟨j, hj, rfl, hoj⟩ := hrel
              have HJ := hide hoj
              clear hoj hrw
              by_cases hjl : j < 30
              · have hij := fun wy => run_index53 wy want j HB.out.2.2.1.2.1 hjl
                have hrd := HB.out.2.2.1.2.2 j hjl
                generalize hbj : (want).getD j Bk.zero = bj at hij hrd
                have HR := hide hrd
                clear hrd hbj
                go_wp2_with fail
                refine (read_any _ p F5 (stL L W x) (stW L W x) j (HB.out.1.only (HJ.out.alloc _) (by simp))).mono ?_
                rintro e wy ⟨rfl, hoy⟩
                have l9 : wr.heap.size < wy.heap.size := ((Blk.new wr 45 bj.cells).only hoy (by simp)).lt
                have hr9 : row wy wr.heap.size 0 64 = some bj.cells := by rw [((Blk.new wr 45 _).only hoy (by simp)).row 0 64 (by simp), Bk.ext_cells]
                rw [HR.out.1, HR.out.2]
                have HY := hide hoy
                clear hoy
                go_wp2
                go_roundw
                case rel => exact ⟨j + 1, by omega, by go_num, (HJ.out.alloc _).new (HY.out.alloc _) (by simp)⟩
                case measure => simp [intOf]; omega
              · have hj30 : j = 30 := by omega
                subst hj30
                go_wp2
                go_roundw
                case rel => exact ⟨k + 1, by omega, by go_num, _, _, _, _, HB.out.1.only HJ.out (by simp), HB.out.2.1.only HJ.out (by simp), HB.out.2.2.1, HB.out.2.2.2.1.new HJ.out (by simp), HB.out.2.2.2.2⟩
                case measure => simp [intOf]; omega
      · have hge : (l.length : Int) ≤ (k : Int) := by omega
        go_wp2
        go_ret
        obtain ⟨L, W, F', want, hS, hb, hg, ho, hF⟩ := HI.out
        exact ⟨rfl, ho⟩
end Go.Proofs.Ytkempjcdapfopaa
