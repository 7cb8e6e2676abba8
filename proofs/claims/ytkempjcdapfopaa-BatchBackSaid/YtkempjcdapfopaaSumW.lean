/- The program's check sum of bytes, by contract. Conditions: the bytes lie in memory as 'Bytes' says. -/
import Derived.Test.YtkempjcdapfopaaPlain
import Derived.Laws.Closers25b
namespace Go.Proofs.Ytkempjcdapfopaa
open Go.RowKit
attribute [local go_sem ↓] Go.wp_at_zero Go.wp_at_succ

/-- a row of 32-bit numbers -/
def nums (T : List Int) : Array Value := (T.map (Value.int .u32)).toArray
theorem size_nums (T : List Int) : (nums T).size = T.length := by simp [nums]
theorem nums_get {T : List Int} {k : Nat} (hk : k < T.length) : (nums T)[k]? = some (.int .u32 (T.getD k 0)) := by
  simp [nums, List.getD, List.getElem?_eq_getElem hk]
theorem nums_set (T : List Int) (k : Nat) (z : Int) : (nums T).setIfInBounds k (.int .u32 z) = nums (T.set k z) := by
  simp [nums, List.map_set]
theorem ones_nums (T : List Int) : ones (nums T) = true := by
  unfold ones nums
  rw [Array.all_eq_true_iff_forall_mem]
  intro v hv
  simp only [List.mem_toArray, List.mem_map] at hv
  obtain ⟨z, _, rfl⟩ := hv
  rfl
def tz : List Int := List.replicate 256 0
theorem tz_len : tz.length = 256 := List.length_replicate
theorem zero143 (w : World) : (zeroValue 143).run Try.prog w = .ok (.agg (nums tz)) w := by kernel_rfl
theorem sz143 : (Try.prog.info? 143).map (·.size) = some 256 := by kernel_rfl
theorem at_alloc143 : Instr.alloc 143 true (.tuple #[]) = allocR 143 := rfl
theorem run_alloc143 (w : World) : (allocR 143).run Try.prog w = .ok (.pointer (some ⟨w.heap.size, 0, none⟩)) (w.alloc (.cells (nums tz) 143)) := run_alloc_of zero143 w
theorem at_load143 (x : Value) : Instr.loadAt 143 x = loadAtR 143 x := rfl
theorem run_load143 (w : World) (b o : Nat) : (loadAtR 143 (.pointer (some ⟨b, o, none⟩))).run Try.prog w = loadRes Try.prog 143 b o w (row w b o 256) := run_loadAt_row 143 256 _ Try.underlying143 rfl sz143 w b o
theorem at_store143 (x v : Value) : Instr.storeAt 143 x v = storeAtR 143 x v := rfl
theorem run_store143 (w : World) (b o : Nat) (cs : Array Value) (hs : cs.size = 256) (h1 : ones cs = true) : (storeAtR 143 (.pointer (some ⟨b, o, none⟩)) (.agg cs)).run Try.prog w = storeRes Try.prog 143 b o cs w (canPut w b o 256) := run_storeAt_row 143 256 sz143 w b o cs hs h1
attribute [go_sem ↓] at_alloc143 at_load143 at_store143
attribute [go_sem] run_alloc143 run_load143 run_store143

/-- a step of a table's entry -/
def rnd1 (z : Int) : Int := bits BinOp.xor IntKind.u32 (z / 2) (3988292384 * bits BinOp.and IntKind.u32 z 1 % 4294967296)
def rnds : Nat → Int → Int
  | 0, z => z
  | j + 1, z => rnd1 (rnds j z)
theorem rnds_in (j : Nat) (z : Int) (h0 : 0 ≤ z) (h1 : z < 4294967296) : 0 ≤ rnds j z ∧ rnds j z < 4294967296 := by
  cases j with
  | zero => exact ⟨h0, h1⟩
  | succ j =>
    have a := bits_lo_u32 BinOp.xor (rnds j z / 2) (3988292384 * bits BinOp.and IntKind.u32 (rnds j z) 1 % 4294967296)
    have b := bits_hi_u32 BinOp.xor (rnds j z / 2) (3988292384 * bits BinOp.and IntKind.u32 (rnds j z) 1 % 4294967296)
    exact ⟨a, Int.lt_of_le_of_lt b (by decide)⟩
def tabL : List Int := (List.range 256).map (fun i => rnds 8 (i : Nat))
theorem tabL_get {k : Nat} (hk : k < 256) : tabL.getD k 0 = rnds 8 k := by
  simp [tabL, List.getD, hk]
theorem tabL_len : tabL.length = 256 := by simp [tabL]

set_option maxRecDepth 100000 in
set_option maxHeartbeats 800000 in
theorem table_any (w : World) : Calls Try.prog 77 #[] w fun e w' => e = .returned (.agg (nums tabL)) ∧ Only [] w w' := by
  go_enter Try.func77, Try.ntmps77
  go_wp2
  go_loopw [3] (fun i wr => ∃ k : Nat, k ≤ 256 ∧ i = .int .i64 k ∧ ∃ T, Blk wr w.heap.size 143 (nums T) ∧ T.length = 256 ∧ (∀ i : Nat, i < k → T.getD i 0 = rnds 8 i) ∧ Only [] w wr) (fun i _ => 256 - (intOf i).toNat)
  case atStart => exact ⟨0, Nat.zero_le _, rfl, tz, Blk.new w 143 _, tz_len, fun i hi => absurd hi (Nat.not_lt_zero _), (Only.refl [] w).alloc _⟩
  case round =>
    obtain ⟨k, hk, rfl, T, hb, hT, hall, ho⟩ := hrel
    have hkc := fun (h : k < 256) => ((hb.cell k).trans (nums_get (by rw [hT]; exact h)))
    have hfz := hb.frozen k
    have hlt0 := hb.lt
    have hrw : row wr w.heap.size 0 256 = some (nums T) := by
      rw [hb.row 0 256 (by rw [size_nums]; omega)]
      congr 1
      apply Array.ext'
      simp [Array.toList_extract, List.extract_eq_take_drop]
      exact List.take_of_length_le (by simp [nums, hT])
    have hcp : canPut wr w.heap.size 0 256 = true := hb.canPut _ _ (by rw [size_nums]; omega)
    have HX := hide (And.intro hb (And.intro hT (And.intro hall ho)))
    clear hb hT hall ho
    by_cases hlt : k < 256
    · have hc := hkc hlt
      generalize T.getD k 0 = tk at hc
      clear hkc hrw hcp
      go_wp2
      go_loopw [8, 2] (fun i n wx => ∃ j : Nat, j ≤ 8 ∧ i = .int .i64 j ∧ n = .int .u32 (rnds j k) ∧ wx = wr) (fun i _ _ => 8 - (intOf i).toNat)
      case atStart => exact ⟨0, Nat.zero_le _, rfl, rfl, rfl⟩
      case round =>
        obtain ⟨j, hj, rfl, rfl, rfl⟩ := hrel
        obtain ⟨z0, z1⟩ := rnds_in j k (by omega) (by omega)
        have hs : rnds (j + 1) k = rnd1 (rnds j k) := rfl
        by_cases hj8 : j < 8
        · generalize rnds j k = z at z0 z1 hs ⊢
          have HS := hide hs
          clear hs
          go_wp2
          go_roundw
          case rel => exact ⟨j + 1, by omega, by go_num, by rw [HS.out]; rfl, trivial⟩
          case measure => simp [intOf]; omega
        · have hj88 : j = 8 := by omega
          subst hj88
          generalize hz : rnds 8 k = z at z0 z1 hs ⊢
          have HS := hide (And.intro hz hs)
          clear hs hz
          go_wp2
          go_roundw
          case rel =>
            have hb2 := HX.out.1.set_ k (.int .u32 z)
            rw [nums_set] at hb2
            refine ⟨k + 1, by omega, by go_num, T.set k z, hb2, by rw [List.length_set]; exact HX.out.2.1, fun i hi => ?_, HX.out.2.2.2.setCell (.inr (Nat.le_refl _)) _⟩
            have hl : k < T.length := by rw [HX.out.2.1]; exact hlt
            by_cases hik : i = k
            · rw [hik, ← HS.out.1]; simp [List.getD, hl]
            · have := HX.out.2.2.1 i (by omega)
              rw [← this]
              simp [List.getD, List.getElem?_set, Ne.symm hik]
          case measure => simp [intOf]; omega
    · have hk2 : k = 256 := by omega
      subst hk2
      have hTT : T = tabL := by
        apply List.ext_getElem?
        intro i
        by_cases hi : i < 256
        · have h1 := HX.out.2.2.1 i hi
          rw [← tabL_get hi] at h1
          have hl : i < T.length := by rw [HX.out.2.1]; exact hi
          have hl2 : i < tabL.length := by rw [tabL_len]; exact hi
          simp only [List.getD, List.getElem?_eq_getElem hl, List.getElem?_eq_getElem hl2, Option.getD_some] at h1
          rw [List.getElem?_eq_getElem hl, List.getElem?_eq_getElem hl2, h1]
        · rw [List.getElem?_eq_none (by rw [HX.out.2.1]; omega), List.getElem?_eq_none (by rw [tabL_len]; omega)]
      clear hkc
      have h1 : ones (nums T) = true := ones_nums T
      have h2 : (nums T).size = 256 := by rw [size_nums]; exact HX.out.2.1
      have HT := hide hTT
      clear hTT
      go_wp2
      have hrow2 : row (put wr w.heap.size 0 (nums T)) w.heap.size 0 256 = some (nums T) := by
        have hb := HX.out.1.put_ 0 (nums T)
        have e1 : splice (nums T) 0 (nums T) = nums T := by
          apply Array.ext'
          simp [splice]
        rw [e1] at hb
        rw [hb.row 0 256 (by rw [size_nums]; have := HX.out.2.1; omega)]
        congr 1
        apply Array.ext'
        simp [Array.toList_extract, List.extract_eq_take_drop]
        exact List.take_of_length_le (by simp [nums]; have := HX.out.2.1; omega)
      refine bodyPost_ret (results_cell_one (n := 256) rfl _ Try.underlying143 rfl sz143 _ _ w.heap.size (nums T) rfl hrow2) rfl ⟨by rw [HT.out], HX.out.2.2.2.put (.inr (Nat.le_refl _)) _ _⟩

/-- a step of the sum -/
def crc1 (n c : Int) : Int := bits BinOp.xor IntKind.u32 (n / 256) (tabL.getD (bits BinOp.xor IntKind.u8 (n % 256) c).toNat 0)
def crcL (l : List Int) : Int := l.foldl crc1 4294967295
/-- the sum of bytes -/
def sumF (l : List Int) : Int := bits BinOp.xor IntKind.u32 IntKind.u32.max (crcL l)
theorem sumF_in (l : List Int) : 0 ≤ sumF l ∧ sumF l < 4294967296 :=
  ⟨bits_lo_u32 _ _ _, Int.lt_of_le_of_lt (bits_hi_u32 _ _ _) (by decide)⟩
theorem crcL_in (l : List Int) : 0 ≤ crcL l ∧ crcL l < 4294967296 := by
  have : ∀ (l : List Int) (n : Int), 0 ≤ n → n < 4294967296 → 0 ≤ l.foldl crc1 n ∧ l.foldl crc1 n < 4294967296 := by
    intro l
    induction l with
    | nil => intro n h0 h1; exact ⟨h0, h1⟩
    | cons c l ih =>
      intro n h0 h1
      have a := bits_lo_u32 BinOp.xor (n / 256) (tabL.getD (bits BinOp.xor IntKind.u8 (n % 256) c).toNat 0)
      have b := bits_hi_u32 BinOp.xor (n / 256) (tabL.getD (bits BinOp.xor IntKind.u8 (n % 256) c).toNat 0)
      exact ih _ a (Int.lt_of_le_of_lt b (by decide))
  exact this l _ (by decide) (by decide)

set_option maxRecDepth 100000 in
set_option maxHeartbeats 800000 in
theorem sum_any (w : World) (B : Nat) (v : Value) (l : List Int) (h : Bytes w B v l) (hB : B ≤ w.heap.size) (hmax : l.length ≤ 9223372036854775807) : Calls Try.prog 53 #[v] w fun e w' => e = .returned (.int .u32 (sumF l)) ∧ Only [] w w' := by
  have HV := hide h
  obtain ⟨A, c, rfl, _⟩ := h
  go_enter Try.func53, Try.ntmps53
  go_wp2_with fail
  refine (table_any _).mono ?_
  rintro e w1 ⟨rfl, ho1⟩
  have s0 : (nums tz).size = 256 := by rw [size_nums, tz_len]
  have s1 : (nums tabL).size = 256 := by rw [size_nums, tabL_len]
  have s2 : ones (nums tabL) = true := ones_nums _
  have H1 := hide ho1
  clear ho1
  go_wp2
  have hb1 := Blk.new w1 143 (nums tabL)
  go_loopw [10, 4] (fun i n wr => ∃ k : Nat, k ≤ l.length ∧ i = .int .i64 k ∧ n = .int .u32 (crcL (l.take k)) ∧ Blk wr w1.heap.size 143 (nums tabL) ∧ Only [] w wr) (fun i _ _ => l.length - (intOf i).toNat)
  case atStart => exact ⟨0, Nat.zero_le _, rfl, rfl, hb1, H1.out.alloc _⟩
  case round =>
    obtain ⟨k, hk, rfl, rfl, hb, ho⟩ := hrel
    obtain ⟨z0, z1⟩ := crcL_in (l.take k)
    by_cases hlt : k < l.length
    · obtain ⟨A', c', hv, hz, ha⟩ := HV.out
      injection hv with hA _ _
      subst hA
      obtain ⟨b, o, rfl, hbB, hc⟩ := ha (by omega)
      have hck : wr.cell? ⟨b, o + k, none⟩ = some (.int .u8 l[k]) := by
        rw [← hc k hlt]
        exact World.cell?_of_block (ho.block b (by omega) (by simp))
      have hzk := hz _ (List.getElem_mem hlt)
      have y0 := hzk.1
      have y1 := hzk.2
      have hst : crcL (l.take (k + 1)) = crc1 (crcL (l.take k)) l[k] := by
        unfold crcL
        rw [List.take_succ_eq_append_getElem hlt, List.foldl_append]
        rfl
      generalize crcL (l.take k) = z at *
      generalize l[k] = y at *
      have i0 := bits_lo_u8 BinOp.xor (z % 256) y
      have i1 := bits_hi_u8 BinOp.xor (z % 256) y
      have hct : wr.cell? ⟨w1.heap.size, (bits BinOp.xor IntKind.u8 (z % 256) y).toNat, none⟩ = some (.int .u32 (tabL.getD (bits BinOp.xor IntKind.u8 (z % 256) y).toNat 0)) := by
        rw [hb.cell, nums_get (by rw [tabL_len]; omega)]
      unfold crc1 at hst
      generalize tabL.getD (bits BinOp.xor IntKind.u8 (z % 256) y).toNat 0 = t at hct hst
      have HS := hide (And.intro hst (And.intro hb ho))
      have lb := hb.lt
      clear hst hc hz ha hzk hb ho
      go_wp2
      go_roundw
      case rel => exact ⟨k + 1, by omega, by go_num, by rw [HS.out.1], HS.out.2.1, HS.out.2.2⟩
      case measure => simp [intOf]; omega
    · have hkl : k = l.length := by omega
      subst hkl
      rw [List.take_length] at z0 z1 ⊢
      generalize hz : crcL l = z at z0 z1 ⊢
      have HS := hide (And.intro hz (And.intro hb ho))
      clear hz hb ho
      go_wp2
      go_ret
      exact ⟨by unfold sumF; rw [HS.out.1]; rfl, HS.out.2.2⟩
theorem sum_digits : sumF [49, 50, 51, 52, 53, 54, 55, 56, 57] = 3421780262 := by decide +kernel
end Go.Proofs.Ytkempjcdapfopaa
