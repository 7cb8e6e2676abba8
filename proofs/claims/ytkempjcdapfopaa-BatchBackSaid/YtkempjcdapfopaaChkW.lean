/- Accounts' names, and the checks of lines and of a batch, by contract. Conditions: the lines lie in memory as 'LinesAt' says. -/
import Derived.Test.YtkempjcdapfopaaPlain
namespace Go.Proofs.Ytkempjcdapfopaa
open Go.RowKit
attribute [local go_sem ↓] Go.wp_at_zero Go.wp_at_succ

def nmL : List ByteArray := [⟨#[99, 97, 115, 104]⟩, ⟨#[108, 111, 97, 110, 115]⟩, ⟨#[97, 108, 108, 111, 119, 97, 110, 99, 101]⟩, ⟨#[105, 110, 99, 111, 109, 101]⟩, ⟨#[101, 102, 102, 101, 99, 116, 115]⟩, ⟨#[105, 109, 112, 97, 105, 114, 101, 100]⟩, ⟨#[114, 101, 99, 111, 118, 101, 114, 101, 100]⟩]
def nm (k : Nat) : ByteArray := nmL.getD k ⟨#[]⟩
def acc7 : Array Value := #[.int .i64 1, .string ⟨#[99, 97, 115, 104]⟩, .int .i64 2, .string ⟨#[108, 111, 97, 110, 115]⟩, .int .i64 3, .string ⟨#[97, 108, 108, 111, 119, 97, 110, 99, 101]⟩, .int .i64 4, .string ⟨#[105, 110, 99, 111, 109, 101]⟩,
  .int .i64 5, .string ⟨#[101, 102, 102, 101, 99, 116, 115]⟩, .int .i64 6, .string ⟨#[105, 109, 112, 97, 105, 114, 101, 100]⟩, .int .i64 7, .string ⟨#[114, 101, 99, 111, 118, 101, 114, 101, 100]⟩]
theorem acc7_get : ∀ k : Nat, k < 7 → acc7[k * 2]? = some (.int .i64 ((k : Int) + 1)) ∧ acc7[k * 2 + 1]? = some (.string (nm k)) := by
  intro k hk
  match k, hk with
  | 0, _ => exact ⟨rfl, rfl⟩
  | 1, _ => exact ⟨rfl, rfl⟩
  | 2, _ => exact ⟨rfl, rfl⟩
  | 3, _ => exact ⟨rfl, rfl⟩
  | 4, _ => exact ⟨rfl, rfl⟩
  | 5, _ => exact ⟨rfl, rfl⟩
  | 6, _ => exact ⟨rfl, rfl⟩
/-- an account's name; none if there is no such account -/
def nameOf (n : Int) : ByteArray := if 1 ≤ n ∧ n ≤ 7 then nm (n - 1).toNat else ⟨#[]⟩
theorem cf89 (args : Array Value) (w : World) : (callFunc 89 args).run Try.prog w = .ok (.enter 89 args) w := by kernel_rfl
theorem accounts_any (w : World) : Calls Try.prog 88 #[] w fun e w' => e = .returned (.slice (some ⟨w.heap.size, 0, none⟩) 7 7) ∧ w' = w.alloc (.cells acc7 158) := by
  go_enter Try.func88, Try.ntmps88
  go_wp2
  go_ret
  exact ⟨rfl, rfl⟩
theorem number_any (w : World) (n : Int) (s : ByteArray) : Calls Try.prog 89 #[.agg #[.int .i64 n, .string s]] w fun e w' => e = .returned (.int .i64 n) ∧ Only [] w w' := by
  go_enter Try.func89, Try.ntmps89
  go_wp2
  go_ret
  exact ⟨rfl, (Only.refl [] w).alloc _⟩
theorem sz158 : (Try.prog.info? 158).map (·.size) = some 2 := by kernel_rfl
set_option maxRecDepth 100000 in
set_option maxHeartbeats 800000 in
theorem look_any (w : World) (b : Nat) (n : Int) (h : Blk w b 158 acc7) :
    Calls Try.prog 87 #[.slice (some ⟨b, 0, none⟩) 7 7, .func (.func 89) #[] #[], .int .i64 n] w fun e w' => ∃ m, e = .returned (.agg #[.int .i64 m, .string (nameOf n)]) ∧ Only [] w w' := by
  have hcf := cf89
  have HB := hide h
  have lb := h.lt
  clear h
  go_enter Try.func87, Try.ntmps87
  go_wp2
  go_loopw [11] (fun i wr => ∃ k : Nat, k ≤ 7 ∧ i = .int .i64 k ∧ (∀ j : Nat, j < k → n ≠ (j : Int) + 1) ∧ Blk wr w.heap.size 158 #[.int .i64 0, .string ⟨#[]⟩] ∧ Only [] w wr) (fun i _ => 7 - (intOf i).toNat)
  case atStart => exact ⟨0, Nat.zero_le _, rfl, fun j hj => absurd hj (Nat.not_lt_zero _), Blk.new w 158 _, (Only.refl [] w).alloc _⟩
  case round =>
    obtain ⟨k, hk, rfl, hne, hz, ho⟩ := hrel
    by_cases hlt : k < 7
    · have hbw := HB.out.only ho (by simp)
      have c0 : wr.cell? ⟨b, k * 2, none⟩ = some (.int .i64 ((k : Int) + 1)) := by rw [hbw.cell]; exact (acc7_get k hlt).1
      have c1 : wr.cell? ⟨b, k * 2 + 1, none⟩ = some (.string (nm k)) := by rw [hbw.cell]; exact (acc7_get k hlt).2
      have lbw := hbw.lt
      have lz := hz.lt
      have z0 : wr.cell? ⟨w.heap.size, 0, none⟩ = some (.int .i64 0) := by rw [hz.cell]; rfl
      have z1 : wr.cell? ⟨w.heap.size, 1, none⟩ = some (.string ⟨#[]⟩) := by rw [hz.cell]; rfl
      have f0 := hz.frozen 0
      have f1 := hz.frozen 1
      have HX := hide (And.intro hne (And.intro hz ho))
      clear hne hz ho hbw
      go_wp2_with fail
      refine (number_any _ _ _).mono ?_
      rintro e wx ⟨rfl, hox⟩
      have hzx := (HX.out.2.1.alloc (Obj.cells #[.int .i64 ((k : Int) + 1), .string (nm k)] 158)).only hox (by simp)
      have hex := (Blk.new wr 158 #[.int .i64 ((k : Int) + 1), .string (nm k)]).only hox (by simp)
      have x0 : wx.cell? ⟨wr.heap.size, 0, none⟩ = some (.int .i64 ((k : Int) + 1)) := by rw [hex.cell]; rfl
      have x1 : wx.cell? ⟨wr.heap.size, 1, none⟩ = some (.string (nm k)) := by rw [hex.cell]; rfl
      have y0 : wx.cell? ⟨w.heap.size, 0, none⟩ = some (.int .i64 0) := by rw [hzx.cell]; rfl
      have y1 : wx.cell? ⟨w.heap.size, 1, none⟩ = some (.string ⟨#[]⟩) := by rw [hzx.cell]; rfl
      have g0 := hzx.frozen 0
      have g1 := hzx.frozen 1
      have lzx := hzx.lt
      have lex := hex.lt
      have HY := hide (And.intro hzx (And.intro hex (((HX.out.2.2.alloc (Obj.cells #[.int .i64 ((k : Int) + 1), .string (nm k)] 158)).new hox (by simp)))))
      clear hzx hex hox z0 z1 f0 f1 c0 c1
      by_cases hn : (k : Int) + 1 = n
      · have hnm : nameOf n = nm k := by
          unfold nameOf
          rw [if_pos (by omega)]
          congr 1
          omega
        have HN := hide (And.intro hn hnm)
        have q1 : ((k : Int) + 1 == n) = true := by simp [hn]
        clear hn hnm
        go_wp2
        have hb2 := ((HY.out.1.set_ 0 (.int .i64 ((k : Int) + 1))).set_ 1 (.string (nm k)))
        refine bodyPost_ret (results_cell_one (n := 2) rfl _ Try.underlying158 rfl sz158 _ _ w.heap.size #[.int .i64 ((k : Int) + 1), .string (nm k)] rfl (by rw [hb2.row 0 2 (by simp)]; rfl)) rfl ⟨_, by rw [HN.out.2], (HY.out.2.2.setCell (.inr (Nat.le_refl _)) _).setCell (.inr (Nat.le_refl _)) _⟩
      · have q1 : ((k : Int) + 1 == n) = false := by simp [hn]
        have HN := hide hn
        clear hn
        go_wp2
        go_roundw
        case rel =>
          refine ⟨k + 1, by omega, by go_num, fun j hj he => ?_, HY.out.1, HY.out.2.2⟩
          by_cases hjk : j = k
          · exact HN.out (by rw [← hjk]; exact he.symm)
          · exact HX.out.1 j (by omega) he
        case measure => simp [intOf]; omega
    · have hk7 : k = 7 := by omega
      subst hk7
      have lz := hz.lt
      have z0 : wr.cell? ⟨w.heap.size, 0, none⟩ = some (.int .i64 0) := by rw [hz.cell]; rfl
      have z1 : wr.cell? ⟨w.heap.size, 1, none⟩ = some (.string ⟨#[]⟩) := by rw [hz.cell]; rfl
      have f0 := hz.frozen 0
      have f1 := hz.frozen 1
      have HX := hide (And.intro hne (And.intro hz ho))
      clear hne hz ho
      go_wp2
      have hb2 := ((HX.out.2.1.set_ 0 (.int .i64 0)).set_ 1 (.string ⟨#[]⟩))
      have hnm : nameOf n = ⟨#[]⟩ := by
        unfold nameOf
        by_cases h : 1 ≤ n ∧ n ≤ 7
        · exact absurd (show n = ((n - 1).toNat : Int) + 1 by omega) (HX.out.1 (n - 1).toNat (by omega))
        · rw [if_neg h]
      refine bodyPost_ret (results_cell_one (n := 2) rfl _ Try.underlying158 rfl sz158 _ _ w.heap.size #[.int .i64 0, .string ⟨#[]⟩] rfl (by rw [hb2.row 0 2 (by simp)]; rfl)) rfl ⟨_, by rw [hnm], (HX.out.2.2.setCell (.inr (Nat.le_refl _)) _).setCell (.inr (Nat.le_refl _)) _⟩

theorem field158 (m : Int) (s : ByteArray) (w : World) : (Instr.field 158 (.agg #[.int .i64 m, .string s]) 1).run Try.prog w = .ok (.string s) w := by kernel_rfl
set_option maxRecDepth 100000 in
theorem name_any (w : World) (n : Int) : Calls Try.prog 84 #[.int .i64 n] w fun e w' => e = .returned (.string (nameOf n)) ∧ Only [] w w' := by
  have hf := field158
  go_enter Try.func84, Try.ntmps84
  go_wp2_with fail
  refine (accounts_any _).mono ?_
  rintro e w1 ⟨rfl, rfl⟩
  have hb := Blk.new w 158 acc7
  have HB := hide hb
  clear hb
  go_wp2_with fail
  refine (look_any _ _ n HB.out).mono ?_
  rintro e w2 ⟨m, rfl, ho⟩
  have HO := hide ho
  clear ho
  go_wp2
  go_ret
  exact ⟨rfl, ((Only.refl [] w).alloc _).trans HO.out (by simp) (by simp)⟩
theorem name_none (n : Int) : (nameOf n == (⟨#[]⟩ : ByteArray)) = !(decide (1 ≤ n ∧ n ≤ 7)) := by
  unfold nameOf
  by_cases h : 1 ≤ n ∧ n ≤ 7
  · rw [if_pos h]
    obtain ⟨k, hk⟩ := Int.eq_ofNat_of_zero_le (show 0 ≤ n - 1 by omega)
    have hk7 : k < 7 := by omega
    rw [hk]
    simp only [Int.toNat_natCast, h, and_self, decide_true, Bool.not_true]
    match k, hk7 with
    | 0, _ => rfl
    | 1, _ => rfl
    | 2, _ => rfl
    | 3, _ => rfl
    | 4, _ => rfl
    | 5, _ => rfl
    | 6, _ => rfl
  · rw [if_neg h]
    simp only [h, decide_false, Bool.not_false]
    rfl

/-- whether a string is empty -/
def emp (a : ByteArray) : Bool := a.toList == (⟨#[]⟩ : ByteArray).toList
theorem eql_empty (a : ByteArray) : binOp .eql 9 (.string a) (.string ⟨#[]⟩) = pure (.bool (emp a)) := by
  rw [binOp_string_eql]; rfl
theorem emp_name (n : Int) : emp (nameOf n) = !(decide (1 ≤ n ∧ n ≤ 7)) := by
  unfold nameOf
  by_cases h : 1 ≤ n ∧ n ≤ 7
  · rw [if_pos h]
    obtain ⟨k, hk⟩ := Int.eq_ofNat_of_zero_le (show 0 ≤ n - 1 by omega)
    have hk7 : k < 7 := by omega
    rw [hk]
    simp only [Int.toNat_natCast, h, and_self, decide_true, Bool.not_true]
    match k, hk7 with
    | 0, _ => decide +kernel
    | 1, _ => decide +kernel
    | 2, _ => decide +kernel
    | 3, _ => decide +kernel
    | 4, _ => decide +kernel
    | 5, _ => decide +kernel
    | 6, _ => decide +kernel
  · rw [if_neg h]
    simp only [h, decide_false, Bool.not_false]
    decide +kernel
attribute [local go_sem high] eql_empty

/-- lines that lie in memory below block B -/
def LinesAt (w : World) (B : Nat) (v : Value) (l : List (Int × Int)) : Prop :=
  ∃ A c, v = .slice A l.length c ∧ (∀ x ∈ l, (-9223372036854775808 ≤ x.1 ∧ x.1 ≤ 9223372036854775807) ∧ -9223372036854775808 ≤ x.2 ∧ x.2 ≤ 9223372036854775807) ∧ (0 < l.length → ∃ b o, A = some ⟨b, o, none⟩ ∧ b < B ∧ ∀ j (hj : j < l.length),
    w.cell? ⟨b, o + j * 2, none⟩ = some (.int .i64 l[j].1) ∧ w.cell? ⟨b, o + j * 2 + 1, none⟩ = some (.int .i64 l[j].2))
theorem LinesAt.only {w w' : World} {B : Nat} {F : List Nat} {v : Value} {l : List (Int × Int)} (h : LinesAt w B v l) (ho : Only F w w') (hB : B ≤ w.heap.size) (hF : ∀ x ∈ F, B ≤ x) : LinesAt w' B v l := by
  obtain ⟨A, c, rfl, hz, ha⟩ := h
  refine ⟨A, c, rfl, hz, fun hp => ?_⟩
  obtain ⟨b, o, hA, hb, hc⟩ := ha hp
  have hbl : w'.heap[b]? = w.heap[b]? := ho.block b (by omega) (fun hm => by have := hF _ hm; omega)
  exact ⟨b, o, hA, hb, fun j hj => ⟨by rw [← (hc j hj).1]; exact World.cell?_of_block hbl, by rw [← (hc j hj).2]; exact World.cell?_of_block hbl⟩⟩

/-- whether a line may be -/
def okLine (x : Int × Int) : Bool := decide (1 ≤ x.1 ∧ x.1 ≤ 7 ∧ x.2 ≠ 0 ∧ -1125899906842624 ≤ x.2 ∧ x.2 ≤ 1125899906842624)
def sumL (l : List (Int × Int)) : Int := l.foldl (fun s x => s + x.2) 0
theorem sumL_snoc (l : List (Int × Int)) (x : Int × Int) : sumL (l ++ [x]) = sumL l + x.2 := by simp [sumL]
theorem sumL_in (l : List (Int × Int)) (h : ∀ x ∈ l, okLine x = true) : -(l.length * 1125899906842624 : Int) ≤ sumL l ∧ sumL l ≤ l.length * 1125899906842624 := by
  revert h
  refine snoc_ind (P := fun l => (∀ x ∈ l, okLine x = true) → -(l.length * 1125899906842624 : Int) ≤ sumL l ∧ sumL l ≤ l.length * 1125899906842624) ?_ ?_ l
  · intro _; simp [sumL]
  · intro l x ih h
    obtain ⟨a, b⟩ := ih (fun y hy => h y (by simp [hy]))
    have hx : okLine x = true := h x (by simp)
    simp only [okLine, decide_eq_true_eq] at hx
    rw [sumL_snoc, List.length_append, List.length_singleton]
    push_cast
    omega
/-- what the check of lines says -/
def chkL (l : List (Int × Int)) : Int := if 64 < l.length then 10 else if l.length = 0 then 2 else if l.all okLine = true ∧ sumL l = 0 then 0 else 2

theorem bad_line {l : List (Int × Int)} {x : Int × Int} (hx : x ∈ l) (hb : okLine x = false) : (if l.all okLine = true ∧ sumL l = 0 then (0 : Int) else 2) = 2 := by
  rw [if_neg]
  rintro ⟨h, _⟩
  rw [List.all_eq_true] at h
  rw [h x hx] at hb
  cases hb
set_option maxRecDepth 100000 in
set_option maxHeartbeats 16000000 in
theorem check_any (w : World) (B : Nat) (v : Value) (l : List (Int × Int)) (h : LinesAt w B v l) (hB : B ≤ w.heap.size) (hmax : l.length ≤ 9223372036854775807) :
    Calls Try.prog 78 #[v] w fun e w' => e = .returned (.int .i64 (chkL l)) ∧ Only [] w w' := by
  have HV := hide h
  obtain ⟨A, c, rfl, _⟩ := h
  by_cases h64 : 64 < l.length
  · have e1 : chkL l = 10 := by unfold chkL; rw [if_pos h64]
    rw [e1]
    have h64' : (64 : Int) < (l.length : Int) := by omega
    go_enter Try.func78, Try.ntmps78
    go_wp2
    go_ret
    exact ⟨rfl, Only.refl _ _⟩
  · by_cases h0 : l.length = 0
    · have e1 : chkL l = 2 := by unfold chkL; rw [if_neg h64, if_pos h0]
      rw [e1, h0]
      go_enter Try.func78, Try.ntmps78
      go_wp2
      go_ret
      exact ⟨rfl, Only.refl _ _⟩
    · have e1 : chkL l = if l.all okLine = true ∧ sumL l = 0 then 0 else 2 := by unfold chkL; rw [if_neg h64, if_neg h0]
      have HE := hide e1
      generalize hr : chkL l = r
      have HR := hide hr
      clear hr
      have h64' : ((l.length : Int) ≤ 64) := by omega
      have hpos : (0 : Int) < (l.length : Int) := by omega
      have hne : ((l.length : Int) == 0) = false := by simp; exact fun h => h0 (by rw [h]; rfl)
      clear e1
      go_enter Try.func78, Try.ntmps78
      go_wp2
      go_loopw [16, 3] (fun i s wr => ∃ k : Nat, k ≤ l.length ∧ i = .int .i64 k ∧ s = .int .i64 (sumL (l.take k)) ∧ (∀ x ∈ l.take k, okLine x = true) ∧ Only [] w wr) (fun i _ _ => l.length - (intOf i).toNat)
      case atStart => exact ⟨0, Nat.zero_le _, rfl, rfl, by simp, Only.refl _ _⟩
      case round =>
        obtain ⟨k, hk, rfl, rfl, hall, ho⟩ := hrel
        obtain ⟨s0, s1⟩ := sumL_in _ hall
        rw [List.length_take, Nat.min_eq_left hk] at s0 s1
        by_cases hlt : k < l.length
        · obtain ⟨A', c', hv, hz, ha⟩ := HV.out
          injection hv with hA _ hcc
          subst hA
          subst hcc
          obtain ⟨b, o, rfl, hbB, hc⟩ := ha (by omega)
          have hbl : wr.heap[b]? = w.heap[b]? := ho.block b (by omega) (by simp)
          have c0 : wr.cell? ⟨b, o + k * 2, none⟩ = some (.int .i64 l[k].1) := by rw [← (hc k hlt).1]; exact World.cell?_of_block hbl
          have c1 : wr.cell? ⟨b, o + k * 2 + 1, none⟩ = some (.int .i64 l[k].2) := by rw [← (hc k hlt).2]; exact World.cell?_of_block hbl
          have hzk := hz _ (List.getElem_mem hlt)
          have hst : sumL (l.take (k + 1)) = sumL (l.take k) + l[k].2 := by rw [List.take_succ_eq_append_getElem hlt, sumL_snoc]
          have hin : l[k] ∈ l := List.getElem_mem hlt
          have htk : l.take (k + 1) = l.take k ++ [l[k]] := List.take_succ_eq_append_getElem hlt
          have lb : b < wr.heap.size := by have := ho.size; omega
          generalize l[k] = x at *
          obtain ⟨x1, x2⟩ := x
          simp only at *
          generalize sumL (l.take k) = s at *
          have HS := hide (And.intro hst (And.intro hin (And.intro htk (And.intro hall ho))))
          clear hst hin htk hall hc hz ha hbl
          go_wp2_with fail
          refine (name_any _ x1).mono ?_
          rintro e w2 ⟨rfl, ho2⟩
          have hX2 := (Blk.new wr 118 #[.int .i64 x1, .int .i64 x2]).only ho2 (by simp)
          have y1 : w2.cell? ⟨wr.heap.size, 1, none⟩ = some (.int .i64 x2) := by rw [hX2.cell]; rfl
          have l2 := hX2.lt
          have HX := hide (And.intro hX2 ((HS.out.2.2.2.2.alloc (Obj.cells #[.int .i64 x1, .int .i64 x2] 118)).new ho2 (by simp)))
          have hnn := emp_name x1
          have s2 : -72057594037927936 ≤ s := by omega
          have s3 : s ≤ 72057594037927936 := by omega
          clear h64 h0 hne hpos h64' s0 s1
          have hr0 := hzk.2.1
          have hr1 := hzk.2.2
          generalize nameOf x1 = nx at hnn ⊢
          clear hX2 ho2 ho c0 c1 hzk
          by_cases hx1 : 1 ≤ x1 ∧ x1 ≤ 7
          · have q0 : emp nx = false := by rw [hnn]; simp [hx1]
            by_cases hx2 : x2 = 0
            · have HB := hide (bad_line HS.out.2.1 (by simp [okLine, hx2]))
              have q1 : (x2 == 0) = true := by simp [hx2]
              clear hnn hx2
              go_wp2
              go_ret
              exact ⟨by rw [← HR.out, HE.out, HB.out]; rfl, HX.out.2⟩
            · have q1 : (x2 == 0) = false := by simp [hx2]
              by_cases hx3 : x2 < -1125899906842624
              · have HB := hide (bad_line HS.out.2.1 (by simp [okLine]; omega))
                clear hnn
                go_wp2
                go_ret
                exact ⟨by rw [← HR.out, HE.out, HB.out]; rfl, HX.out.2⟩
              · by_cases hx4 : 1125899906842624 < x2
                · have HB := hide (bad_line HS.out.2.1 (by simp [okLine]; omega))
                  clear hnn
                  go_wp2
                  go_ret
                  exact ⟨by rw [← HR.out, HE.out, HB.out]; rfl, HX.out.2⟩
                · have hok : okLine (x1, x2) = true := by simp [okLine]; omega
                  have HOK := hide hok
                  clear hok hnn hx2
                  go_wp2
                  go_roundw
                  case rel =>
                    refine ⟨k + 1, by omega, by go_num, by rw [HS.out.1], fun x hx => ?_, HX.out.2⟩
                    rw [HS.out.2.2.1] at hx
                    simp only [List.mem_append, List.mem_singleton] at hx
                    rcases hx with hx | hx
                    · exact HS.out.2.2.2.1 x hx
                    · rw [hx]; exact HOK.out
                  case measure => simp [intOf]; omega
          · have q0 : emp nx = true := by rw [hnn]; simp only [hx1, decide_false, Bool.not_false]
            have HB := hide (bad_line HS.out.2.1 (by simp [okLine]; omega))
            clear hnn
            go_wp2
            go_ret
            exact ⟨by rw [← HR.out, HE.out, HB.out]; rfl, HX.out.2⟩
        · have hkl : k = l.length := by omega
          subst hkl
          rw [List.take_length] at s0 s1 hall ⊢
          have hall' : l.all okLine = true := by rw [List.all_eq_true]; exact hall
          by_cases hs : sumL l = 0
          · rw [hs]
            have HX := hide (And.intro ho (And.intro hs hall'))
            clear ho hs s0 s1 hall hall'
            go_wp2
            go_ret
            exact ⟨by rw [← HR.out, HE.out, if_pos ⟨HX.out.2.2, HX.out.2.1⟩]; rfl, HX.out.1⟩
          · have q1 : (sumL l == 0) = false := by simp [hs]
            have HX := hide (And.intro ho hs)
            clear ho hs hall hall'
            generalize hss : sumL l = s at q1 s0 s1 ⊢
            have HSS := hide hss
            clear hss
            go_wp2
            go_ret
            exact ⟨by rw [← HR.out, HE.out, if_neg (fun h => HX.out.2 h.2)]; rfl, HX.out.1⟩
end Go.Proofs.Ytkempjcdapfopaa
