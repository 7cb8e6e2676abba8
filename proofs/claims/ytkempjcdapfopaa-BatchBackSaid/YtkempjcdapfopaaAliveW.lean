/- The document's example of stores comes true. Conditions: none. -/
import Derived.Test.YtkempjcdapfopaaDoW
namespace Go.Proofs.Ytkempjcdapfopaa
open Go.RowKit

theorem new_int (w : World) (m : Int) (h1 : 1 ≤ m) (h2 : m ≤ 4096) :
    Calls Try.prog 16 #[.int .i64 m] w fun e w' => ∃ p F, e = .returned (.tuple #[.pointer (some ⟨p, 0, none⟩), .int .i64 0]) ∧ StoreAt w' p F (List.replicate m.toNat z0) [] ∧ Only [] w w' ∧ ∀ x ∈ F, w.heap.size ≤ x := by
  obtain ⟨n, rfl⟩ := Int.eq_ofNat_of_zero_le (show 0 ≤ m by omega)
  exact new_yes w n (by omega) (by omega)

theorem Only.new {a b c : World} {G : List Nat} (h : Only [] a b) (k : Only G b c) (hG : ∀ x ∈ G, a.heap.size ≤ x) : Only [] a c :=
  h.trans k (by simp) (fun x hx hlt => by have := hG x hx; omega)
theorem h7 : ∀ z ∈ [(7 : Int)], 0 ≤ z ∧ z < 256 := by simp
def b7 : Bk := ofB [7] h7
theorem build45_7 (w : World) : (buildR 45 #[(0, .int .u8 7)]).run Try.prog w = .ok (.agg b7.cells) w := by kernel_rfl
theorem Bk.cells_get (b : Bk) (i : Nat) (h : i < b.cells.size) : b.cells[i]'h = .int .u8 (b.l[i]'(by rw [b.len]; simpa using h)) := by simp [Bk.cells]
theorem b7_0 (h : 0 < b7.l.length) : b7.l[0]'h = 7 := rfl
theorem z_0 (h : 0 < Bk.zero.l.length) : Bk.zero.l[0]'h = 0 := rfl
theorem ix0 (w : World) : (Instr.index 95 (.agg #[.int .u8 0, .int .u8 7, .int .u8 0]) (.int .u8 0)).run Try.prog w = .ok (.int .u8 0) w := by kernel_rfl
theorem ix1 (w : World) : (Instr.index 95 (.agg #[.int .u8 0, .int .u8 7, .int .u8 0]) (.int .u8 1)).run Try.prog w = .ok (.int .u8 7) w := by kernel_rfl
theorem ix2 (w : World) : (Instr.index 95 (.agg #[.int .u8 0, .int .u8 7, .int .u8 0]) (.int .u8 2)).run Try.prog w = .ok (.int .u8 0) w := by kernel_rfl
theorem bytes_one (w : World) (B b : Nat) (z : Int) (h0 : 0 ≤ z) (h1 : z < 256) (hb : b < B) (hc : w.cell? ⟨b, 0, none⟩ = some (.int .u8 z)) : Bytes w B (.slice (some ⟨b, 0, none⟩) 1 1) [z] :=
  ⟨_, 1, rfl, by simp; omega, fun _ => ⟨b, 0, rfl, hb, fun j hj => by
    have : j = 0 := by simp at hj; omega
    subst this
    simpa using hc⟩⟩

set_option maxRecDepth 100000 in
set_option maxHeartbeats 1600000 in
theorem alive_any (w : World) : Calls Try.prog 14 #[] w fun e w' => e = .returned (.bool true) ∧ Only [] w w' := by
  have hi0 := ix0
  have hi1 := ix1
  have hi2 := ix2
  have hb45 := build45_7
  have hcg := Bk.cells_get
  have hb70 := b7_0
  have hz0 := z_0
  go_enter Try.func14, Try.ntmps14
  go_wp2_with fail
  refine (new_int _ 4 (by omega) (by omega)).mono ?_
  rintro e w1 ⟨p, F, rfl, hS, hO, hF⟩
  have HS := hide (And.intro hS (And.intro hO hF))
  clear hS hO hF
  go_wp2_with fail
  refine (size_any _ p F _ _ HS.out.1).mono ?_
  rintro e w2 ⟨rfl, rfl⟩
  simp only [List.length_replicate]
  go_wp2
  go_loopw [27] (fun i wr => ∃ k : Nat, k ≤ 3 ∧ i = .int .u8 k ∧ Only [] w wr) (fun i _ => 3 - (intOf i).toNat)
  case atStart => exact ⟨0, by omega, rfl, HS.out.2.1⟩
  case round =>
    obtain ⟨k, hk, rfl, ho⟩ := hrel
    have HO := hide ho
    clear ho
    rcases (show k = 0 ∨ k = 1 ∨ k = 2 ∨ k = 3 by omega) with rfl | rfl | rfl | rfl
    · rw [show ((0 : Nat) : Int) = 0 from rfl]
      go_wp2_with fail
      refine (new_int _ 4 (by omega) (by omega)).mono ?_
      rintro e w3 ⟨q, G, rfl, hS3, hO3, hF3⟩
      have HS3 := hide (And.intro hS3 (And.intro hO3 hF3))
      clear hS3 hO3 hF3
      go_wp2_with fail
      refine (write_any _ q G _ _ 2 b7 HS3.out.1).mono ?_
      rintro e w4 ⟨rfl, G4, hS4, hO4, hF4⟩
      have e1 : wrE (List.replicate (Int.toNat 4) z0) [] 2 = 0 := rfl
      have e2 : wrW (List.replicate (Int.toNat 4) z0) [] 2 b7 = [(2, b7)] := rfl
      rw [e1]
      rw [e2] at hS4
      clear e1 e2
      have HS4 := hide (And.intro hS4 (And.intro hO4 hF4))
      clear hS4 hO4 hF4
      go_wp2_with fail
      have O5 : Only [] w4 (w4.alloc (Obj.cells #[.int .u8 0] 5)) := (Only.refl [] w4).alloc _
      have hB5 : Bytes (w4.alloc (Obj.cells #[.int .u8 0] 5)) (w4.heap.size + 1) (.slice (some ⟨w4.heap.size, 0, none⟩) 1 1) [0] :=
        bytes_one _ _ _ _ (by omega) (by omega) (by omega) (by rw [(Blk.new w4 5 #[.int .u8 0]).cell]; rfl)
      refine (crash_gen _ q _ G4 _ _ _ [0] (HS4.out.1.only O5 (by simp)) (fun w' ho => hB5.far ho (fun g hg hm => by
        have : g = w4.heap.size := by injection hg with hg; exact hg.symm
        subst this
        have := HS4.out.1.lt _ hm
        omega))).mono ?_
      rintro e w5 ⟨rfl, G5, hS5, hO5, hF5⟩
      have HS5 := hide (And.intro hS5 (And.intro hO5 (And.intro hF5 O5)))
      clear hS5 hO5 hF5 O5 hB5
      go_wp2_with fail
      refine (read_any _ q G5 _ _ 2 HS5.out.1).mono ?_
      rintro e w6 ⟨rfl, hO6⟩
      have e1 : rdB (settleL (List.replicate (Int.toNat 4) z0) [(2, b7)] (fateOf [0]) 0) [] 2 = Bk.zero := rfl
      have e2 : rdE (settleL (List.replicate (Int.toNat 4) z0) [(2, b7)] (fateOf [0]) 0) [] 2 = 0 := rfl
      rw [e1, e2]
      have HO6 := hide hO6
      clear hO6 e1 e2
      go_wp2
      go_roundw
      case rel =>
        repeat apply Exists.intro
        refine ⟨⟨1, by omega, rfl, ?_⟩, rfl⟩
        have s0 := HO.out.size
        have s3 := HS3.out.2.1.size
        have g3 : ∀ x ∈ G, w.heap.size ≤ x := fun x hx => by have := HS3.out.2.2 x hx; omega
        have g4 : ∀ x ∈ G4, w.heap.size ≤ x := fun x hx => by
          rcases HS4.out.2.2 x hx with h | h
          · exact g3 x h
          · omega
        exact ((((HO.out.new HS3.out.2.1 (by simp)).new HS4.out.2.1 g3).new HS5.out.2.2.2 (by simp)).new HS5.out.2.1 g4).new (HO6.out.alloc _) (by simp)
      case measure => simp [intOf]
    · rw [show ((1 : Nat) : Int) = 1 from rfl]
      go_wp2_with fail
      refine (new_int _ 4 (by omega) (by omega)).mono ?_
      rintro e w3 ⟨q, G, rfl, hS3, hO3, hF3⟩
      have HS3 := hide (And.intro hS3 (And.intro hO3 hF3))
      clear hS3 hO3 hF3
      go_wp2_with fail
      refine (write_any _ q G _ _ 2 b7 HS3.out.1).mono ?_
      rintro e w4 ⟨rfl, G4, hS4, hO4, hF4⟩
      have e1 : wrE (List.replicate (Int.toNat 4) z0) [] 2 = 0 := rfl
      have e2 : wrW (List.replicate (Int.toNat 4) z0) [] 2 b7 = [(2, b7)] := rfl
      rw [e1]
      rw [e2] at hS4
      clear e1 e2
      have HS4 := hide (And.intro hS4 (And.intro hO4 hF4))
      clear hS4 hO4 hF4
      go_wp2_with fail
      have O5 : Only [] w4 (w4.alloc (Obj.cells #[.int .u8 1] 5)) := (Only.refl [] w4).alloc _
      have hB5 : Bytes (w4.alloc (Obj.cells #[.int .u8 1] 5)) (w4.heap.size + 1) (.slice (some ⟨w4.heap.size, 0, none⟩) 1 1) [1] :=
        bytes_one _ _ _ _ (by omega) (by omega) (by omega) (by rw [(Blk.new w4 5 #[.int .u8 1]).cell]; rfl)
      refine (crash_gen _ q _ G4 _ _ _ [1] (HS4.out.1.only O5 (by simp)) (fun w' ho => hB5.far ho (fun g hg hm => by
        have : g = w4.heap.size := by injection hg with hg; exact hg.symm
        subst this
        have := HS4.out.1.lt _ hm
        omega))).mono ?_
      rintro e w5 ⟨rfl, G5, hS5, hO5, hF5⟩
      have HS5 := hide (And.intro hS5 (And.intro hO5 (And.intro hF5 O5)))
      clear hS5 hO5 hF5 O5 hB5
      go_wp2_with fail
      refine (read_any _ q G5 _ _ 2 HS5.out.1).mono ?_
      rintro e w6 ⟨rfl, hO6⟩
      have e1 : rdB (settleL (List.replicate (Int.toNat 4) z0) [(2, b7)] (fateOf [1]) 0) [] 2 = b7 := rfl
      have e2 : rdE (settleL (List.replicate (Int.toNat 4) z0) [(2, b7)] (fateOf [1]) 0) [] 2 = 0 := rfl
      rw [e1, e2]
      have HO6 := hide hO6
      clear hO6 e1 e2
      go_wp2
      go_roundw
      case rel =>
        repeat apply Exists.intro
        refine ⟨⟨2, by omega, rfl, ?_⟩, rfl⟩
        have s0 := HO.out.size
        have s3 := HS3.out.2.1.size
        have g3 : ∀ x ∈ G, w.heap.size ≤ x := fun x hx => by have := HS3.out.2.2 x hx; omega
        have g4 : ∀ x ∈ G4, w.heap.size ≤ x := fun x hx => by
          rcases HS4.out.2.2 x hx with h | h
          · exact g3 x h
          · omega
        exact ((((HO.out.new HS3.out.2.1 (by simp)).new HS4.out.2.1 g3).new HS5.out.2.2.2 (by simp)).new HS5.out.2.1 g4).new (HO6.out.alloc _) (by simp)
      case measure => simp [intOf]
    · rw [show ((2 : Nat) : Int) = 2 from rfl]
      go_wp2_with fail
      refine (new_int _ 4 (by omega) (by omega)).mono ?_
      rintro e w3 ⟨q, G, rfl, hS3, hO3, hF3⟩
      have HS3 := hide (And.intro hS3 (And.intro hO3 hF3))
      clear hS3 hO3 hF3
      go_wp2_with fail
      refine (write_any _ q G _ _ 2 b7 HS3.out.1).mono ?_
      rintro e w4 ⟨rfl, G4, hS4, hO4, hF4⟩
      have e1 : wrE (List.replicate (Int.toNat 4) z0) [] 2 = 0 := rfl
      have e2 : wrW (List.replicate (Int.toNat 4) z0) [] 2 b7 = [(2, b7)] := rfl
      rw [e1]
      rw [e2] at hS4
      clear e1 e2
      have HS4 := hide (And.intro hS4 (And.intro hO4 hF4))
      clear hS4 hO4 hF4
      go_wp2_with fail
      have O5 : Only [] w4 (w4.alloc (Obj.cells #[.int .u8 2] 5)) := (Only.refl [] w4).alloc _
      have hB5 : Bytes (w4.alloc (Obj.cells #[.int .u8 2] 5)) (w4.heap.size + 1) (.slice (some ⟨w4.heap.size, 0, none⟩) 1 1) [2] :=
        bytes_one _ _ _ _ (by omega) (by omega) (by omega) (by rw [(Blk.new w4 5 #[.int .u8 2]).cell]; rfl)
      refine (crash_gen _ q _ G4 _ _ _ [2] (HS4.out.1.only O5 (by simp)) (fun w' ho => hB5.far ho (fun g hg hm => by
        have : g = w4.heap.size := by injection hg with hg; exact hg.symm
        subst this
        have := HS4.out.1.lt _ hm
        omega))).mono ?_
      rintro e w5 ⟨rfl, G5, hS5, hO5, hF5⟩
      have HS5 := hide (And.intro hS5 (And.intro hO5 (And.intro hF5 O5)))
      clear hS5 hO5 hF5 O5 hB5
      go_wp2_with fail
      refine (read_any _ q G5 _ _ 2 HS5.out.1).mono ?_
      rintro e w6 ⟨rfl, hO6⟩
      have e1 : rdB (settleL (List.replicate (Int.toNat 4) z0) [(2, b7)] (fateOf [2]) 0) [] 2 = Bk.zero := rfl
      have e2 : rdE (settleL (List.replicate (Int.toNat 4) z0) [(2, b7)] (fateOf [2]) 0) [] 2 = 7 := rfl
      rw [e1, e2]
      have HO6 := hide hO6
      clear hO6 e1 e2
      go_wp2
      go_roundw
      case rel =>
        repeat apply Exists.intro
        refine ⟨⟨3, by omega, rfl, ?_⟩, rfl⟩
        have s0 := HO.out.size
        have s3 := HS3.out.2.1.size
        have g3 : ∀ x ∈ G, w.heap.size ≤ x := fun x hx => by have := HS3.out.2.2 x hx; omega
        have g4 : ∀ x ∈ G4, w.heap.size ≤ x := fun x hx => by
          rcases HS4.out.2.2 x hx with h | h
          · exact g3 x h
          · omega
        exact ((((HO.out.new HS3.out.2.1 (by simp)).new HS4.out.2.1 g3).new HS5.out.2.2.2 (by simp)).new HS5.out.2.1 g4).new (HO6.out.alloc _) (by simp)
      case measure => simp [intOf]
    · rw [show ((3 : Nat) : Int) = 3 from rfl]
      go_wp2_with fail
      refine (sync_nil _).mono ?_
      rintro e w3 ⟨rfl, hO3⟩
      have HO3 := hide hO3
      clear hO3
      go_wp2_with fail
      refine (size_nil _).mono ?_
      rintro e w4 ⟨rfl, rfl⟩
      go_wp2
      go_ret
      exact ⟨rfl, HO.out.new HO3.out (by simp)⟩
end Go.Proofs.Ytkempjcdapfopaa
