/- The batch of bytes (batch.Get), by contract. Conditions: the bytes lie in memory as 'Bytes' says. -/
import Derived.Test.YtkempjcdapfopaaPtW
import Derived.Deep.DeepCutAuto
namespace Go.Proofs.Ytkempjcdapfopaa
open Go.RowKit
attribute [local go_sem ↓] Go.wp_at_zero Go.wp_at_succ

def cnt (x : List Int) : Nat := (x.getD 10 0).toNat
def getS (x : List Int) : Int := valL ((x.drop 2).take 4)
def getE (x : List Int) : Int := valL ((x.drop 6).take 4)
def lineAt (x : List Int) (k : Nat) : Int × Int := (x.getD (11 + 9 * k) 0, wrap64 (valL ((x.drop (12 + 9 * k)).take 8)))
def linesOf (x : List Int) : List (Int × Int) := (List.range (cnt x)).map (lineAt x)
def getC (x : List Int) : Int := if x.length < 15 then 14 else if x.getD 0 0 ≠ 76 ∨ x.getD 1 0 ≠ 66 then 6 else if x.length < 15 + 9 * cnt x then 14 else if 15 + 9 * cnt x < x.length then 6 else
  if valL (x.drop (x.length - 4)) ≠ sumF (x.take (x.length - 4)) then 7 else if bchk (getS x) (getE x) (linesOf x) ≠ 0 then 6 else 0

theorem Bytes.cell {w : World} {B : Nat} {b o c : Nat} {x : List Int} (h : Bytes w B (.slice (some ⟨b, o, none⟩) x.length c) x) (hp : 0 < x.length) : b < B ∧ ∀ j (hj : j < x.length), w.cell? ⟨b, o + j, none⟩ = some (.int .u8 x[j]) ∧ 0 ≤ x[j] ∧ x[j] < 256 := by
  obtain ⟨A', c', hv, hz, ha⟩ := h
  obtain ⟨b', o', rfl, hb, hc⟩ := ha hp
  injection hv with e _ _
  injection e with e
  injection e with e1 e2
  subst e1 e2
  exact ⟨hb, fun j hj => ⟨hc j hj, hz _ (List.getElem_mem hj)⟩⟩
theorem Bytes.addr {w : World} {B : Nat} {A : Option Addr} {c : Nat} {x : List Int} (h : Bytes w B (.slice A x.length c) x) (hp : 0 < x.length) : ∃ b o, A = some ⟨b, o, none⟩ := by
  obtain ⟨A', c', hv, hz, ha⟩ := h
  obtain ⟨b', o', rfl, hb, hc⟩ := ha hp
  injection hv with e _ _
  exact ⟨b', o', e⟩
/-- a part of bytes -/
theorem Bytes.part {w : World} {B : Nat} {b o c : Nat} {x : List Int} (h : Bytes w B (.slice (some ⟨b, o, none⟩) x.length c) x) (hp : 0 < x.length) (k m c' : Nat) (hk : k + m ≤ x.length) : Bytes w B (.slice (some ⟨b, o + k, none⟩) m c') ((x.drop k).take m) := by
  obtain ⟨hb, hc⟩ := h.cell hp
  have hl : ((x.drop k).take m).length = m := by simp; omega
  refine ⟨_, c', by rw [hl], fun z hz => ?_, fun _ => ⟨b, o + k, rfl, hb, fun j hj => ?_⟩⟩
  · have := List.mem_of_mem_drop (List.mem_of_mem_take hz)
    obtain ⟨i, hi, rfl⟩ := List.getElem_of_mem this
    exact (hc i hi).2
  · rw [hl] at hj
    rw [Nat.add_assoc, (hc (k + j) (by omega)).1]
    simp

/-- what Get comes to where there is no batch, and where there is -/
def GetNo (w : World) (c : Int) (en : Ending) (w' : World) : Prop := en = .returned (.tuple #[.agg #[.int .i64 0, .int .i64 0, .slice none 0 0], .int .i64 c]) ∧ Only [] w w'
def GetYes (w : World) (x : List Int) (en : Ending) (w' : World) : Prop := ∃ v', en = .returned (.tuple #[.agg #[.int .i64 (getS x), .int .i64 (getE x), v'], .int .i64 0]) ∧ OwnL 118 w w' v' (linesOf x)

set_option maxRecDepth 100000 in
set_option maxHeartbeats 1600000 in
theorem bget_1 (w : World) (A : Option Addr) (n c : Nat) (h : n < 15) : Calls Try.prog 32 #[.slice A n c] w (GetNo w 14) := by
  go_enter Try.func32, Try.ntmps32
  go_wp2
  exact bodyPost_ret (v := .tuple #[.agg #[.int .i64 0, .int .i64 0, .slice none 0 0], .int .i64 14]) (by simp [results, Try.results32, go_sem]) rfl ⟨rfl, (Only.refl [] w).alloc _⟩
set_option maxRecDepth 100000 in
set_option maxHeartbeats 1600000 in
theorem bget_2 (w : World) (b o n c : Nat) (z : Int) (h : 15 ≤ n) (hn : n ≤ 1000000) (hb : b < w.heap.size) (hc : w.cell? ⟨b, o, none⟩ = some (.int .u8 z)) (hz : z ≠ 76) : Calls Try.prog 32 #[.slice (some ⟨b, o, none⟩) n c] w (GetNo w 6) := by
  have hq : (z == 76) = false := by simp [hz]
  have hq' : (z != 76) = true := by simp [hz]
  clear hz
  go_enter Try.func32, Try.ntmps32
  go_wp2
  exact bodyPost_ret (v := .tuple #[.agg #[.int .i64 0, .int .i64 0, .slice none 0 0], .int .i64 6]) (by simp [results, Try.results32, go_sem]) rfl ⟨rfl, (Only.refl [] w).alloc _⟩
set_option maxRecDepth 100000 in
set_option maxHeartbeats 1600000 in
theorem bget_3 (w : World) (b o n c : Nat) (z : Int) (h : 15 ≤ n) (hn : n ≤ 1000000) (hb : b < w.heap.size) (hc0 : w.cell? ⟨b, o, none⟩ = some (.int .u8 76)) (hc : w.cell? ⟨b, o + 1, none⟩ = some (.int .u8 z)) (hz : z ≠ 66) : Calls Try.prog 32 #[.slice (some ⟨b, o, none⟩) n c] w (GetNo w 6) := by
  have hq : (z == 66) = false := by simp [hz]
  have hq' : (z != 66) = true := by simp [hz]
  clear hz
  go_enter Try.func32, Try.ntmps32
  go_wp2
  exact bodyPost_ret (v := .tuple #[.agg #[.int .i64 0, .int .i64 0, .slice none 0 0], .int .i64 6]) (by simp [results, Try.results32, go_sem]) rfl ⟨rfl, (Only.refl [] w).alloc _⟩
set_option maxRecDepth 100000 in
set_option maxHeartbeats 1600000 in
theorem bget_4 (w : World) (b o n c : Nat) (d : Int) (h : 15 ≤ n) (hn : n ≤ 1000000) (hnc : n ≤ c) (hb : b < w.heap.size) (hc0 : w.cell? ⟨b, o, none⟩ = some (.int .u8 76)) (hc1 : w.cell? ⟨b, o + 1, none⟩ = some (.int .u8 66)) (hc : w.cell? ⟨b, o + 10, none⟩ = some (.int .u8 d)) (hd0 : 0 ≤ d) (hd1 : d < 256)
    (hz : (n : Int) < 15 + 9 * d) : Calls Try.prog 32 #[.slice (some ⟨b, o, none⟩) n c] w (GetNo w 14) := by
  go_enter Try.func32, Try.ntmps32
  go_wp2
  exact bodyPost_ret (v := .tuple #[.agg #[.int .i64 0, .int .i64 0, .slice none 0 0], .int .i64 14]) (by simp [results, Try.results32, go_sem]) rfl ⟨rfl, (Only.refl [] w).alloc _⟩
set_option maxRecDepth 100000 in
set_option maxHeartbeats 1600000 in
theorem bget_5 (w : World) (b o n c : Nat) (d : Int) (h : 15 ≤ n) (hn : n ≤ 1000000) (hnc : n ≤ c) (hb : b < w.heap.size) (hc0 : w.cell? ⟨b, o, none⟩ = some (.int .u8 76)) (hc1 : w.cell? ⟨b, o + 1, none⟩ = some (.int .u8 66)) (hc : w.cell? ⟨b, o + 10, none⟩ = some (.int .u8 d)) (hd0 : 0 ≤ d) (hd1 : d < 256)
    (hz : 15 + 9 * d < (n : Int)) : Calls Try.prog 32 #[.slice (some ⟨b, o, none⟩) n c] w (GetNo w 6) := by
  go_enter Try.func32, Try.ntmps32
  go_wp2
  exact bodyPost_ret (v := .tuple #[.agg #[.int .i64 0, .int .i64 0, .slice none 0 0], .int .i64 6]) (by simp [results, Try.results32, go_sem]) rfl ⟨rfl, (Only.refl [] w).alloc _⟩
theorem getD_eq {x : List Int} {k : Nat} (h : k < x.length) : x.getD k 0 = x[k] := by simp [List.getD, List.getElem?_eq_getElem h]
theorem part_bytes {w : World} {B : Nat} {v : Value} {x : List Int} (h : Bytes w B v x) (k m : Nat) : ∀ z ∈ (x.drop k).take m, 0 ≤ z ∧ z < 256 := by
  obtain ⟨_, _, _, hz, _⟩ := h
  exact fun z h => hz z (List.mem_of_mem_drop (List.mem_of_mem_take h))
theorem val4 {l : List Int} (h : ∀ z ∈ l, 0 ≤ z ∧ z < 256) (hl : l.length = 4) : getN l = valL l ∧ 0 ≤ valL l ∧ valL l < 4294967296 := by
  have a := valL_in l h
  rw [hl] at a
  exact ⟨getN_val l h (by omega), a.1, a.2⟩
theorem get59_4 (w : World) (B : Nat) (v : Value) (l : List Int) (h : Bytes w B v l) (hz : ∀ z ∈ l, 0 ≤ z ∧ z < 256) (hl : l.length = 4) : Calls Try.prog 59 #[v] w fun e w' => e = .returned (.int .u32 (valL l)) ∧ w = w' := by
  obtain ⟨a, b, c⟩ := val4 hz hl
  refine (get59 w B v l h (by omega)).mono fun e w' ⟨he, hw⟩ => ⟨?_, hw⟩
  rw [he, a, Int.emod_eq_of_lt b c]
theorem get60_4 (w : World) (B : Nat) (v : Value) (l : List Int) (h : Bytes w B v l) (hz : ∀ z ∈ l, 0 ≤ z ∧ z < 256) (hl : l.length = 4) : Calls Try.prog 60 #[v] w fun e w' => e = .returned (.int .i64 (valL l)) ∧ w = w' := by
  obtain ⟨a, b, c⟩ := val4 hz hl
  refine (get60 w B v l h (by omega)).mono fun e w' ⟨he, hw⟩ => ⟨?_, hw⟩
  rw [he, a, IntWalk.wrap64_in _ (by omega)]
theorem get61_8 (w : World) (B : Nat) (v : Value) (l : List Int) (h : Bytes w B v l) (hz : ∀ z ∈ l, 0 ≤ z ∧ z < 256) (hl : l.length = 8) : Calls Try.prog 61 #[v] w fun e w' => e = .returned (.int .i64 (wrap64 (valL l))) ∧ w = w' := by
  refine (get61 w B v l h (by omega)).mono fun e w' ⟨he, hw⟩ => ⟨?_, hw⟩
  rw [he, getN_val l hz (by omega)]
theorem heap1 (w : World) (o : Obj) : ((w.alloc o).drew).heap[w.heap.size]? = some o := by
  have := heap_alloc_new w o
  simpa [World.drew] using this
/-- what Get comes to -/
def GetR (w : World) (x : List Int) (en : Ending) (w' : World) : Prop := (getC x ≠ 0 ∧ GetNo w (getC x) en w') ∨ (getC x = 0 ∧ GetYes w x en w')

set_option maxRecDepth 100000 in
set_option maxHeartbeats 3200000 in
theorem bget_6 (w : World) (B b o c d : Nat) (x : List Int) (hB : B ≤ w.heap.size) (hnc : x.length ≤ c) (hd : d < 256) (hn : x.length = 15 + 9 * d) (hx : Bytes w B (.slice (some ⟨b, o, none⟩) x.length c) x)
    (h0 : x.getD 0 0 = 76) (h1 : x.getD 1 0 = 66) (h10 : x.getD 10 0 = d) : Calls Try.prog 32 #[.slice (some ⟨b, o, none⟩) x.length c] w (GetR w x) := by
  obtain ⟨i0, hi0, hz0, hz1, hz2⟩ := info_parts info118
  have hcnt : cnt x = d := by unfold cnt; rw [h10]; rfl
  have hC : getC x = if valL (x.drop (x.length - 4)) ≠ sumF (x.take (x.length - 4)) then 7 else if bchk (getS x) (getE x) (linesOf x) ≠ 0 then 6 else 0 := by
    unfold getC
    rw [if_neg (by omega), if_neg (by rw [h0, h1]; decide), hcnt, if_neg (by omega), if_neg (by omega)]
  obtain ⟨hbB, hcell⟩ := hx.cell (by omega)
  have hb : b < w.heap.size := by omega
  have c0 : w.cell? ⟨b, o, none⟩ = some (.int .u8 76) := by
    have := (hcell 0 (by omega)).1
    rw [← getD_eq, h0] at this
    exact this
  have c1 : w.cell? ⟨b, o + 1, none⟩ = some (.int .u8 66) := by
    have := (hcell 1 (by omega)).1
    rw [← getD_eq, h1] at this
    exact this
  have c10 : w.cell? ⟨b, o + 10, none⟩ = some (.int .u8 d) := by
    have := (hcell 10 (by omega)).1
    rw [← getD_eq, h10] at this
    exact this
  have pb := part_bytes hx
  have HX := hide (And.intro hx (And.intro hcnt (And.intro hC pb)))
  clear hx hcell hcnt hC h0 h1 h10 pb
  obtain ⟨n, hxn⟩ : ∃ n, n = x.length := ⟨_, rfl⟩
  rw [← hxn] at hn hnc
  have hn0 : 15 + 9 * d ≤ n := by omega
  have hn1 : n ≤ 15 + 9 * d := by omega
  have HN := hide (And.intro hxn hn)
  rw [← hxn]
  clear hxn hn
  go_enter Try.func32, Try.ntmps32
  go_wp2_with fail
  have e4 : n - (n - 4) = 4 := by omega
  rw [e4]
  clear e4
  have O1 : Only [] w (w.alloc (Obj.cells #[.int .i64 0, .int .i64 0, .slice none 0 0] 65)) := (Only.refl [] w).alloc _
  have hpn : 0 < x.length := by have := HN.out.1; omega
  have hpa : Bytes w B (.slice (some ⟨b, o + (n - 4), none⟩) 4 (c - (n - 4))) ((x.drop (n - 4)).take 4) := HX.out.1.part hpn (n - 4) 4 _ (by have := HN.out.1; omega)
  have hpb : Bytes w B (.slice (some ⟨b, o, none⟩) (n - 4) c) ((x.drop 0).take (n - 4)) := HX.out.1.part hpn 0 (n - 4) _ (by have := HN.out.1; omega)
  have hz1' := HX.out.2.2.2 (n - 4) 4
  have ha : (x.drop (n - 4)).take 4 = x.drop (x.length - 4) := by
    rw [List.take_of_length_le (by simp; have := HN.out.1; omega), ← HN.out.1]
  have hl4 : ((x.drop (n - 4)).take 4).length = 4 := by simp; have := HN.out.1; omega
  rw [ha] at hpa hz1' hl4
  rw [List.drop_zero] at hpb
  have HP := hide (And.intro hpb hpn)
  have hC := HX.out.2.2.1
  have hv4 := val4 hz1' hl4
  have v0 := hv4.2.1
  have v1 := hv4.2.2
  refine (get59_4 _ B _ _ (hpa.only O1 hB (by simp)) hz1' hl4).mono ?_
  rintro e2 w1 ⟨rfl, rfl⟩
  rw [← HN.out.1] at hC
  clear hpa hpb hz1' ha hl4 hv4 hpn
  have hA := HN.out.1
  rw [← hA] at v0 v1 ⊢
  clear hA
  generalize valL (x.drop (n - 4)) = p at *
  have HC := hide hC
  clear hC
  have HO1 := hide O1
  clear O1
  go_wp2_with fail
  have ls : (x.take (n - 4)).length ≤ 9223372036854775807 := by simp; omega
  refine (sum_any _ B _ _ (HP.out.1.only HO1.out hB (by simp)) (by have := HO1.out.size; omega) ls).mono ?_
  rintro e3 w3 ⟨rfl, ho3⟩
  have hs0 := (sumF_in (x.take (n - 4))).1
  have hs1 := (sumF_in (x.take (n - 4))).2
  have hX3 := (Blk.new w 65 #[.int .i64 0, .int .i64 0, .slice none 0 0]).only ho3 (by simp)
  have HO3 := hide (And.intro (HO1.out.new ho3 (by simp)) hX3)
  have l3 := hX3.lt
  have z0 : w3.cell? ⟨w.heap.size, 0, none⟩ = some (.int .i64 0) := by rw [hX3.cell]; rfl
  have z1 : w3.cell? ⟨w.heap.size, 1, none⟩ = some (.int .i64 0) := by rw [hX3.cell]; rfl
  have z2 : w3.cell? ⟨w.heap.size, 2, none⟩ = some (.slice none 0 0) := by rw [hX3.cell]; rfl
  have f0 := hX3.frozen 0
  have f1 := hX3.frozen 1
  have f2 := hX3.frozen 2
  clear ho3 hX3 ls
  generalize sumF (x.take (n - 4)) = q at *
  by_cases hpq : p = q
  · have hq1 : (p == q) = true := by simp [hpq]
    have hq2 : (p != q) = false := by simp [hpq]
    have hC := HC.out
    rw [if_neg (by simp [hpq])] at hC
    have HC := hide hC
    clear hC hpq
    have ws : Bytes w3 B (.slice (some ⟨b, o + 2, none⟩) 4 (c - 2)) ((x.drop 2).take 4) := (HX.out.1.part HP.out.2 2 4 _ (by have := HN.out; omega)).only HO3.out.1 hB (by simp)
    have we : Bytes w3 B (.slice (some ⟨b, o + 6, none⟩) 4 (c - 6)) ((x.drop 6).take 4) := (HX.out.1.part HP.out.2 6 4 _ (by have := HN.out; omega)).only HO3.out.1 hB (by simp)
    have hB3 : B ≤ w3.heap.size := by omega
    have ws0 := fun W (h : Only [] w3 W) => get60_4 W B _ _ (ws.only h hB3 (by simp)) (HX.out.2.2.2 2 4) (by simp; have := HN.out; omega)
    have we0 := fun W (h : Only [] w3 W) => get60_4 W B _ _ (we.only h hB3 (by simp)) (HX.out.2.2.2 6 4) (by simp; have := HN.out; omega)
    have HW := hide (And.intro ws0 we0)
    have O3a : Only [] w3 w3.drew := (Only.refl [] w3).drew
    have O3b : Only [] w3 (w3.alloc (Obj.cells #[.int .i64 0, .int .i64 0, .slice none 0 0] 65)).drew := ((Only.refl [] w3).alloc _).drew
    clear ws we ws0 we0 c0 c1 c10
    go_upto_region 13 with fail
    go_cut [6] (fun s6 wx => ∃ g, s6 = .pointer (some ⟨g, 0, none⟩) ∧ Blk wx g 65 #[.int .i64 (getS x), .int .i64 (getE x), .slice none 0 0] ∧ Only [] w3 wx ∧ w3.heap.size ≤ g)
    case first =>
      have T1 := HW.out.1 _ O3a
      have T2 := HW.out.2 _ O3a
      have T3 := HW.out.1 _ O3b
      have T4 := HW.out.2 _ O3b
      have hc6 : (6 : Int) ≤ (c : Int) := by omega
      have hc10 : (10 : Int) ≤ (c : Int) := by omega
      go_region_with (first
        | (go_at_call 60; with_reducible refine (T1).mono ?_; rintro e w' ⟨rfl, rfl⟩)
        | (go_at_call 60; with_reducible refine (T2).mono ?_; rintro e w' ⟨rfl, rfl⟩)
        | (go_at_call 60; with_reducible refine (T3).mono ?_; rintro e w' ⟨rfl, rfl⟩)
        | (go_at_call 60; with_reducible refine (T4).mono ?_; rintro e w' ⟨rfl, rfl⟩))
      all_goals (go_wp2_with fail; go_meet; exact ⟨w3.heap.size, rfl, (Blk.new w3 65 _).drew, ((Only.refl [] w3).alloc _).drew, Nat.le_refl _⟩)
    case rest =>
      rename_i wx
      obtain ⟨g, rfl, hbk, hox, hg⟩ := hcut
      have HBK := hide (And.intro hbk hox)
      have hbs := hox.size
      have hlg := hbk.lt
      clear hbk hox
      go_wp2
      have HG := hide hg
      clear hg f0 f1 f2 z0 z1 z2 hs0 hs1 v0 v1
      have hz9 : n - 4 - 11 = 9 * (d - 0) := by have := HN.out; omega
      go_loopw [7] (fun l wr => ∃ k : Nat, k ≤ d ∧ l = .slice (some ⟨b, o + 11 + 9 * k, none⟩) (9 * (d - k)) (c - 11 - 9 * k) ∧ ∃ v', Blk wr g 65 #[.int .i64 (getS x), .int .i64 (getE x), v'] ∧ OwnL 118 w3 wr v' ((List.range k).map (lineAt x))) (fun l _ => match l with | .slice _ m _ => m | _ => 0)
      case atStart => exact ⟨0, Nat.zero_le _, by rw [hz9]; rfl, _, HBK.out.1, ⟨rfl, .inl ⟨rfl, rfl⟩⟩, HBK.out.2⟩
      case round =>
        clear hz9
        obtain ⟨k, hk, rfl, v', hbk, hown⟩ := hrel
        obtain ⟨q, hq⟩ : ∃ q, q = (List.range k).map (lineAt x) := ⟨_, rfl⟩
        rw [← hq] at hown
        have hql : q.length = k := by rw [hq]; simp
        obtain ⟨ao', cv', rfl⟩ := ownsRow_val hown.1
        have hsz := hown.2.size
        have lgr := hbk.lt
        have hne := own_blk_ne hown.1 hbk (by decide)
        have HJ := hide (And.intro hown (And.intro hbk (And.intro hq hql)))
        clear hown hbk hq
        by_cases hlt : k < d
        · have hxb : Bytes wr B (.slice (some ⟨b, o, none⟩) x.length c) x := (HX.out.1.only HO3.out.1 hB (by simp)).only HJ.out.1.2 (by omega) (by simp)
          have h11 : 11 + 9 * k < x.length := by have := HN.out; omega
          have hyc := (hxb.cell HP.out.2).2 (11 + 9 * k) h11
          have hyz := hxb.part HP.out.2 (11 + 9 * k + 1) 8 (c - 11 - 9 * k - 1) (by have := HN.out; omega)
          have T := get61_8 wr.drew B _ _ (hyz.only ((Only.refl [] wr).drew) (by omega) (by simp)) (HX.out.2.2.2 _ _) (by simp; have := HN.out; omega)
          have hla : lineAt x k = (x[11 + 9 * k], wrap64 (valL ((x.drop (11 + 9 * k + 1)).take 8))) := by
            unfold lineAt
            rw [getD_eq h11, show 12 + 9 * k = 11 + 9 * k + 1 from by omega]
          generalize wrap64 (valL ((x.drop (11 + 9 * k + 1)).take 8)) = z at *
          generalize x[11 + 9 * k] = y at *
          obtain ⟨m, hm⟩ : ∃ m, m = 9 * (d - k) := ⟨_, rfl⟩
          obtain ⟨c', hc'⟩ : ∃ c', c' = c - 11 - 9 * k := ⟨_, rfl⟩
          obtain ⟨o', ho'⟩ : ∃ o', o' = o + 11 + 9 * k := ⟨_, rfl⟩
          rw [show o + (11 + 9 * k) = o' from by omega] at hyc
          rw [show o + (11 + 9 * k + 1) = o' + 1 from by omega, ← hc'] at T
          rw [← hm, ← hc', ← ho']
          have hm9 : (9 : Int) ≤ (m : Int) := by omega
          have hm9' : 9 ≤ m := by omega
          have hmc : (m : Int) < (c' : Int) := by have := HN.out; omega
          have hc9 : (9 : Int) < (c' : Int) := by omega
          have hc9' : (9 : Int) ≤ (c' : Int) := by omega
          have hc1 : ¬ (c' = 1) := by omega
          have hc2 : ¬ (c' = 9) := by omega
          have hy0 := hyc.2.1
          have hy1 := hyc.2.2
          have hy := hyc.1
          have HM := hide (And.intro hm (And.intro hc' (And.intro ho' hla)))
          clear hm hc' ho' hla hyc hyz hxb
          go_upto_region 17 with fail
          have k2 : wr.cell? ⟨g, 2, none⟩ = some (.slice ao' q.length cv') := by rw [HJ.out.2.1.cell]; rfl
          have hwy : IntKind.i64.wrap y = y := IntWalk.i64_in _ (by omega)
          have hq0 : q.length ≤ 300 := by omega
          clear hql
          go_region_law
            (first
              | (refine step_append_lies _ (by rfl) _ _ _ (by rfl) w3.heap.size 118 i0 (.agg #[.int .i64 0, .int .i64 0]) 2 16 Try.underlying63 hi0 hz0 hz1 hz2 (by rfl) (by decide) (.slice ao' q.length cv') q.length (lnV q) (by rfl) ((HJ.out.1.1.alloc _).drew)
                  ⟨wr.heap.size, 0, none⟩ 1 1 [.int .i64 y, .int .i64 z] (by rfl) (by rfl) (World.news_of_block (cs := #[.int .i64 y, .int .i64 z]) (t := 118) (fr := (0, 0)) (heap1 _ _)) (fun u hu => by simp at hu; rcases hu with rfl | rfl <;> rfl)
                  (by decide) (by simp only [maxLen]; omega) (by omega) (by simp; omega) (wr.heap.size + 1) (by simp) ?_; intro gk capk w9 hown9 hgrow9 hat9 hlt9
                 have hbk9 : Blk w9 g 65 #[.int .i64 (getS x), .int .i64 (getE x), .slice ao' q.length cv'] := (hgrow9.block g (by simp; omega) (fun e => hne e.symm)).trans (HJ.out.2.1.alloc _).drew
                 have hK9 : w9.cell? ⟨g, 2, none⟩ = some (.slice ao' q.length cv') := by rw [hbk9.cell]; rfl
                 have hF9 := hbk9.frozen 2
                 have H9 := hide (And.intro hown9 (And.intro hbk9 (((HJ.out.1.2.alloc (Obj.cells #[.int .i64 y, .int .i64 z] 118)).drew).grown hgrow9 (fun k hk => .inr (HJ.out.1.1.lt k hk).1))))
                 clear hown9 hgrow9 hat9 hlt9 hbk9)
              | (go_simp; go_at_call 61
                 ((with_reducible refine T.mono ?_))
                 rintro e10 w10 ⟨rfl, rfl⟩))
          all_goals
            have H7 : Hid (OwnL 118 w3 (w9.setCell ⟨g, 2, none⟩ (.slice (some ⟨gk, 0, none⟩) (q.length + 1) capk)) (.slice (some ⟨gk, 0, none⟩) (q.length + 1) capk) (q ++ [(y, z)])) := by
              refine hide ⟨?_, H9.out.2.2.setCell (.inr HG.out) _⟩
              have hgk := own_blk_ne H9.out.1 H9.out.2.1 (by decide)
              have h9 := ownsRow_only H9.out.1 ((Only.refl [g] w9).setCell (p := ⟨g, 2, none⟩) (.inl (by simp)) (.slice (some ⟨gk, 0, none⟩) (q.length + 1) capk)) (fun g' hg' => by simp; rintro rfl; exact hgk hg')
              rw [lnV_app, List.length_append, List.length_singleton]
              exact h9
            go_wp2
            go_roundw
            case rel =>
              have := HM.out.1
              have := HM.out.2.1
              have := HM.out.2.2.1
              refine ⟨k + 1, by omega, ?_, _, H9.out.2.1.set_ 2 _, ?_⟩
              · rw [show o + 11 + 9 * (k + 1) = o' + 9 from by omega, show 9 * (d - (k + 1)) = m - 9 from by omega, show c - 11 - 9 * (k + 1) = c' - 9 from by omega]
              · rw [List.range_succ, List.map_append, ← HJ.out.2.2.1]
                simp only [List.map_cons, List.map_nil]
                rw [HM.out.2.2.2]
                exact H7.out
            case measure => have hmm := HM.out.1; (try simp only); omega
        · have hkk : k = d := by omega
          subst hkk
          have e0 : 9 * (k - k) = 0 := by omega
          rw [e0]
          clear e0
          have hlx : q = linesOf x := by rw [HJ.out.2.2.1]; unfold linesOf; rw [HX.out.2.1]
          have hX9 : Blk wr w.heap.size 65 #[.int .i64 0, .int .i64 0, .slice none 0 0] := HO3.out.2.only HJ.out.1.2 (by simp)
          have OW : Only [] w wr := HO3.out.1.trans HJ.out.1.2 (by simp) (by simp)
          have hbL : ∀ y ∈ q, (-9223372036854775808 ≤ y.1 ∧ y.1 ≤ 9223372036854775807) ∧ -9223372036854775808 ≤ y.2 ∧ y.2 ≤ 9223372036854775807 := by
            intro y hy
            rw [HJ.out.2.2.1] at hy
            simp only [List.mem_map, List.mem_range] at hy
            obtain ⟨j, hj, rfl⟩ := hy
            have h11 : 11 + 9 * j < x.length := by have := HN.out; omega
            have h12 := (HX.out.1.cell HP.out.2).2 (11 + 9 * j) h11
            unfold lineAt
            rw [getD_eq h11]
            refine ⟨by omega, ?_⟩
            show _ ≤ wrap64 _ ∧ wrap64 _ ≤ _
            unfold wrap64
            omega
          have hLA := HJ.out.1.lines hbL
          have k0 : wr.cell? ⟨g, 0, none⟩ = some (.int .i64 (getS x)) := by rw [HJ.out.2.1.cell]; rfl
          have k1 : wr.cell? ⟨g, 1, none⟩ = some (.int .i64 (getE x)) := by rw [HJ.out.2.1.cell]; rfl
          have k2 : wr.cell? ⟨g, 2, none⟩ = some (.slice ao' q.length cv') := by rw [HJ.out.2.1.cell]; rfl
          have HL := hide (And.intro hlx (And.intro hX9 (And.intro OW hLA)))
          have lq : q.length ≤ 1000 := by omega
          have l9 := hX9.lt
          clear hlx hX9 OW hbL hLA hql hne
          go_wp2_with fail
          refine (bcheck_any _ _ _ _ _ q HL.out.2.2.2 (Nat.le_refl _) (by omega)).mono ?_
          rintro e4 w4 ⟨rfl, ho4⟩
          have hC := HC.out
          rw [← HL.out.1] at hC
          have hX4 := HL.out.2.1.only ho4 (by simp)
          have hG4 := HJ.out.2.1.only ho4 (by simp)
          have z0 : w4.cell? ⟨w.heap.size, 0, none⟩ = some (.int .i64 0) := by rw [hX4.cell]; rfl
          have z1 : w4.cell? ⟨w.heap.size, 1, none⟩ = some (.int .i64 0) := by rw [hX4.cell]; rfl
          have z2 : w4.cell? ⟨w.heap.size, 2, none⟩ = some (.slice none 0 0) := by rw [hX4.cell]; rfl
          have f0 := hX4.frozen 0
          have f1 := hX4.frozen 1
          have f2 := hX4.frozen 2
          have g0 : w4.cell? ⟨g, 0, none⟩ = some (.int .i64 (getS x)) := by rw [hG4.cell]; rfl
          have g1 : w4.cell? ⟨g, 1, none⟩ = some (.int .i64 (getE x)) := by rw [hG4.cell]; rfl
          have g2 : w4.cell? ⟨g, 2, none⟩ = some (.slice ao' q.length cv') := by rw [hG4.cell]; rfl
          have O4 := HL.out.2.2.1.trans ho4 (G := []) (H := []) (by simp) (by simp)
          have H4 := hide (And.intro O4 (HJ.out.1.only ho4))
          clear O4 ho4 hX4 hG4 k0 k1 k2
          by_cases hbc : bchk (getS x) (getE x) q = 0
          · rw [hbc]
            rw [if_neg (by simp [hbc])] at hC
            have HC' := hide hC
            clear hC hbc
            go_wp2
            refine bodyPost_ret (v := .tuple #[.agg #[.int .i64 (getS x), .int .i64 (getE x), .slice ao' q.length cv'], .int .i64 0]) (by simp [results, Try.results32, go_sem, z0, z1, z2]) rfl (.inr ⟨HC'.out, _, rfl, ?_⟩)
            rw [← HL.out.1]
            have h := H4.out.2
            have hne : ∀ g', (Value.slice ao' q.length cv').ownBlock = some g' → w3.heap.size ≤ g' := fun g' hg' => (h.1.lt g' hg').1
            refine ⟨?_, ((H4.out.1.setCell (.inr (Nat.le_refl _)) _).setCell (.inr (Nat.le_refl _)) _).setCell (.inr (Nat.le_refl _)) _⟩
            exact ownsRow_only (ownsRow_base h.1 (by omega)) ((((Only.refl [w.heap.size] w4).setCell (.inl (by simp)) _).setCell (.inl (by simp)) _).setCell (.inl (by simp)) _) (fun g' hg' => by simp; have := hne g' hg'; omega)
          · rw [if_pos hbc] at hC
            have q1 : (bchk (getS x) (getE x) q == 0) = false := by simp [hbc]
            have q2 : (bchk (getS x) (getE x) q != 0) = true := by simp [hbc]
            have HC' := hide hC
            clear hC hbc
            generalize bchk (getS x) (getE x) q = r at *
            go_wp2
            refine bodyPost_ret (v := .tuple #[.agg #[.int .i64 0, .int .i64 0, .slice none 0 0], .int .i64 6]) (by simp [results, Try.results32, go_sem, z0, z1, z2]) rfl (.inl ⟨by rw [HC'.out]; decide, ?_⟩)
            rw [HC'.out]
            exact ⟨rfl, ((H4.out.1.setCell (.inr (Nat.le_refl _)) _).setCell (.inr (Nat.le_refl _)) _).setCell (.inr (Nat.le_refl _)) _⟩
  · have hq1 : (p == q) = false := by simp [hpq]
    have hq2 : (p != q) = true := by simp [hpq]
    have hC := HC.out
    rw [if_pos hpq] at hC
    have HC := hide hC
    clear hC hpq
    go_wp2
    refine bodyPost_ret (v := .tuple #[.agg #[.int .i64 0, .int .i64 0, .slice none 0 0], .int .i64 7]) (by simp [results, Try.results32, go_sem, z0, z1, z2]) rfl (.inl ⟨by rw [HC.out]; decide, ?_⟩)
    rw [HC.out]
    exact ⟨rfl, ((HO3.out.1.setCell (.inr (Nat.le_refl _)) _).setCell (.inr (Nat.le_refl _)) _).setCell (.inr (Nat.le_refl _)) _⟩
theorem getC_eq (x : List Int) : getC x = if x.length < 15 then 14 else if x.getD 0 0 ≠ 76 ∨ x.getD 1 0 ≠ 66 then 6 else if x.length < 15 + 9 * cnt x then 14 else if 15 + 9 * cnt x < x.length then 6 else
  if valL (x.drop (x.length - 4)) ≠ sumF (x.take (x.length - 4)) then 7 else if bchk (getS x) (getE x) (linesOf x) ≠ 0 then 6 else 0 := rfl
theorem GetR.no {w w' : World} {x : List Int} {c : Int} {en : Ending} (hc : getC x = c) (h0 : c ≠ 0) (h : GetNo w c en w') : GetR w x en w' := .inl (by rw [hc]; exact ⟨h0, h⟩)
/-- Get, whatever bytes it is given -/
theorem bget_any (w : World) (B : Nat) (A : Option Addr) (c : Nat) (x : List Int) (hB : B ≤ w.heap.size) (hnc : x.length ≤ c) (hl : x.length ≤ 1000000) (hx : Bytes w B (.slice A x.length c) x) :
    Calls Try.prog 32 #[.slice A x.length c] w (GetR w x) := by
  by_cases h15 : x.length < 15
  · exact (bget_1 w A x.length c h15).mono fun en w' h => GetR.no (by rw [getC_eq, if_pos h15]) (by decide) h
  · obtain ⟨b, o, rfl⟩ := hx.addr (by omega)
    obtain ⟨hbB, hcell⟩ := hx.cell (by omega)
    have hb : b < w.heap.size := by omega
    have c0 := (hcell 0 (by omega)).1
    have c1 := (hcell 1 (by omega)).1
    have c10 := hcell 10 (by omega)
    rw [← getD_eq] at c0 c1 c10
    by_cases h0 : x.getD 0 0 = 76
    · rw [h0] at c0
      by_cases h1 : x.getD 1 0 = 66
      · rw [h1] at c1
        have hcn : ((cnt x : Nat) : Int) = x.getD 10 0 := by unfold cnt; omega
        have hform : ¬ (x.getD 0 0 ≠ 76 ∨ x.getD 1 0 ≠ 66) := by rw [h0, h1]; decide
        by_cases h2 : x.length < 15 + 9 * cnt x
        · exact (bget_4 w b o x.length c (x.getD 10 0) (by omega) hl hnc hb c0 c1 c10.1 c10.2.1 c10.2.2 (by omega)).mono fun en w' h => GetR.no (by rw [getC_eq, if_neg h15, if_neg hform, if_pos h2]) (by decide) h
        · by_cases h3 : 15 + 9 * cnt x < x.length
          · exact (bget_5 w b o x.length c (x.getD 10 0) (by omega) hl hnc hb c0 c1 c10.1 c10.2.1 c10.2.2 (by omega)).mono fun en w' h => GetR.no (by rw [getC_eq, if_neg h15, if_neg hform, if_neg h2, if_pos h3]) (by decide) h
          · exact bget_6 w B b o c (cnt x) x hB hnc (by omega) (by omega) hx h0 h1 hcn.symm
      · exact (bget_3 w b o x.length c (x.getD 1 0) (by omega) hl hb c0 c1 h1).mono fun en w' h => GetR.no (by rw [getC_eq, if_neg h15, if_pos (.inr h1)]) (by decide) h
    · exact (bget_2 w b o x.length c (x.getD 0 0) (by omega) hl hb c0 h0).mono fun en w' h => GetR.no (by rw [getC_eq, if_neg h15, if_pos (.inl h0)]) (by decide) h
end Go.Proofs.Ytkempjcdapfopaa
