/- The statement BatchBack holds of the given program: whatever batch, bytes and place it is given, it returns true, and they read behind the call as they read before. Conditions: none. -/
import Derived.Test.YtkempjcdapfopaaFrame
import Derived.Test.YtkempjcdapfopaaBackW
import Derived.Lib.SmallJoins
namespace Go.Proofs.Ytkempjcdapfopaa
open Go.ChangeShapes Go.WideShapes Go.ChangeAt Go.RowKit

theorem cells149 : Try.prog.cellsOf 149 = 2 := by kernel_rfl
theorem cells2 : Try.prog.cellsOf 2 = 1 := by kernel_rfl
instance : Inhabited (Int × Int) := ⟨(0, 0)⟩
section
variable {H : Type} {enc : TypeId × Value → H} {w : World} {base : Nat} {held : Bool}
theorem line_open {n : Nat} {a : Addr} {y : DataW H × List MemPlace} {cs : List Value} (hc : w.cells? base a 2 = some cs) (h : DataW.trod enc Try.prog w base (fun _ => true) held n 149 cs = some y) :
    ∃ x : Int × Int, w.cell? (a.add 0) = some (.int .i64 x.1) ∧ w.cell? (a.add 1) = some (.int .i64 x.2) ∧ (-9223372036854775808 ≤ x.1 ∧ x.1 ≤ 9223372036854775807) ∧ -9223372036854775808 ≤ x.2 ∧ x.2 ≤ 9223372036854775807 := by
  obtain ⟨_, hlen, hat⟩ := World.cells?_some hc
  obtain ⟨ys, m, _, _, _, hyl, hf⟩ := DataW.trod_struct Try.underlying149 h
  have hyl2 : ys.length = 2 := hyl
  have f0 : DataW.trod enc Try.prog w base (fun _ => true) held m 3 ((cs.drop 0).take (Try.prog.cellsOf 3)) = ys[0]? := hf 0 _ rfl
  have f1 : DataW.trod enc Try.prog w base (fun _ => true) held m 2 ((cs.drop 1).take (Try.prog.cellsOf 2)) = ys[1]? := hf 1 _ rfl
  rw [List.getElem?_eq_getElem (by omega)] at f0 f1
  clear hf
  rw [cells3] at f0
  rw [cells2] at f1
  have g : ∀ i (hi : i < 2), (cs.drop i).take 1 = [cs[i]'(by omega)] ∧ w.cell? (a.add i) = some (cs[i]'(by omega)) := fun i hi => by
    refine ⟨?_, by rw [hat i hi, List.getElem?_eq_getElem (by omega)]⟩
    rw [List.drop_eq_getElem_cons (by omega)]; rfl
  rw [(g 0 (by omega)).1] at f0
  rw [(g 1 (by omega)).1] at f1
  have c0 := (g 0 (by omega)).2
  have c1 := (g 1 (by omega)).2
  clear g hat
  generalize cs[0]'(by omega) = v0 at *
  generalize cs[1]'(by omega) = v1 at *
  obtain ⟨k0, hk0, _, w0⟩ := DataW.trod_int Try.underlying3 f0
  obtain ⟨k1, hk1, _, w1⟩ := DataW.trod_int Try.underlying2 f1
  injection hk0 with hk0 _
  injection hk1 with hk1 _
  subst hk0 hk1
  exact ⟨(k0, k1), c0, c1, bounds_i64 w0, bounds_i64 w1⟩
theorem lines_open {n : Nat} {cs : List Value} {x : DataW H × List MemPlace} (h : DataW.trod enc Try.prog w base (fun _ => true) held n 57 cs = some x) :
    ∃ v l, cs = [v] ∧ LinesAt w w.heap.size v l ∧ l.length ≤ maxLen := by
  rcases Go.Deep.open_slice Try.underlying57 h with ⟨hcs, _⟩ | ⟨a, len, cap, m, n', D, Pl, hcs, _, hl, hm, hmm, _, hel⟩
  · exact ⟨_, [], hcs, ⟨none, 0, rfl, by simp, by simp⟩, by simp⟩
  · simp only [if_true] at hmm
    subst hmm
    rw [cells149] at hel
    have hex : ∀ i, i < len → ∃ x : Int × Int, w.cell? (a.add (i * 2 + 0)) = some (.int .i64 x.1) ∧ w.cell? (a.add (i * 2 + 1)) = some (.int .i64 x.2) ∧ (-9223372036854775808 ≤ x.1 ∧ x.1 ≤ 9223372036854775807) ∧ -9223372036854775808 ≤ x.2 ∧ x.2 ≤ 9223372036854775807 := fun i hi => by
      obtain ⟨cs', h1, h2⟩ := hel i (by omega)
      obtain ⟨x, k0, k1, kb⟩ := line_open h1 h2
      rw [Go.Deep.add_add] at k0 k1
      exact ⟨x, k0, k1, kb⟩
    obtain ⟨X, hX⟩ := Go.Deep.choose_lt (p := fun i (x : Int × Int) => w.cell? (a.add (i * 2 + 0)) = some (.int .i64 x.1) ∧ w.cell? (a.add (i * 2 + 1)) = some (.int .i64 x.2) ∧ (-9223372036854775808 ≤ x.1 ∧ x.1 ≤ 9223372036854775807) ∧ -9223372036854775808 ≤ x.2 ∧ x.2 ≤ 9223372036854775807) hex
    have hll : ((List.range len).map X).length = len := by simp
    refine ⟨_, (List.range len).map X, hcs, ⟨some a, _, by rw [hll], fun y hy => ?_, fun hp => ?_⟩, by rw [hll]; unfold maxLen at hm ⊢; omega⟩
    · simp only [List.mem_map, List.mem_range] at hy
      obtain ⟨i, hi, rfl⟩ := hy
      exact (hX i hi).2.2
    · rw [hll] at hp
      have k0 := (hX 0 hp).1
      obtain ⟨b, o, spot⟩ := a
      have hspot : spot = none := by simpa [Addr.add] using World.cell?_spot k0
      subst hspot
      refine ⟨b, o, rfl, World.block_lt_of_cell? w _ k0, fun j hj => ?_⟩
      rw [hll] at hj
      obtain ⟨k0, k1, _⟩ := hX j hj
      simp only [Addr.add_mid] at k0 k1
      have e : ((List.range len).map X)[j]'(by rw [hll]; exact hj) = X j := by simp
      rw [e]
      exact ⟨k0, by rw [Nat.add_assoc]; exact k1⟩
theorem bytesC_open {n : Nat} {cs : List Value} {x : DataW H × List MemPlace} (h : DataW.trod enc Try.prog w base (fun _ => true) held n 32 cs = some x) :
    ∃ A c zs, cs = [.slice A (zs : List Int).length c] ∧ Bytes w w.heap.size (.slice A zs.length c) zs ∧ zs.length ≤ c ∧ zs.length ≤ maxLen := by
  obtain ⟨v, zs, hcs, hb, hm⟩ := bytes_open h
  obtain ⟨A, c, rfl, hz, ha⟩ := hb
  refine ⟨A, c, zs, hcs, ⟨A, c, rfl, hz, ha⟩, ?_, hm⟩
  rcases open_ints Try.underlying32 Try.underlying5 cells5 h with ⟨h0, _⟩ | ⟨a, len, cap, zs', h0, _, hl, _⟩
  · rw [h0] at hcs
    injection hcs with hcs _
    injection hcs with _ h1 h2
    omega
  · rw [h0] at hcs
    injection hcs with hcs _
    injection hcs with _ h1 h2
    omega
end

set_option maxRecDepth 100000 in
set_option maxHeartbeats 1600000 in
theorem batchBack_lifted (os : Os) (started : os.Started) (H : Type) (enc : TypeId × Value → H) :
    ReturnsInHanded {} Try.checked os 8 .any (Rows.batchBackSpec.pre6 enc Try.prog Try.f8 Rows.batchBackRow.domain false) (Rows.batchBackSpec.post enc Try.prog Try.f8 false true false false) := by
  refine returnsInHanded_of_change (C := Try.checked) Try.own started (by kernel_rfl) Try.func8
    (ChangeSpec.witness6 (enc := enc) (C := Try.checked) false ⟨#[], #[.agg #[.int .i64 0, .int .i64 0, .slice none 0 0], .slice none 0 0, .int .u16 0], []⟩ 8 (by kernel_rfl) (by kernel_rfl) (by kernel_rfl) (by kernel_rfl)) ?_
  intro W base args ds gs before hval0 hW hcnd _
  have hval : ∀ (j : Nat) t v, Try.f8.params[j]? = some t → args[j]? = some v → Value.okWide Try.prog W .any base t v := hval0
  have hW' := hW
  obtain ⟨p, q, hA0, hV, rfl, hfz, hnd⟩ := hW
  have hA : DataW.TrodAll enc Try.prog W 0 (fun _ => true) true Try.f8.params.toList args.toList ds p := hA0
  rw [Try.params8] at hA hval
  obtain ⟨v0, v1, v2, d0, d1, d2, p0, p1, p2, rfl, rfl, rfl, h0, h1, h2⟩ := trodAll_three hA
  obtain ⟨rfl, rfl⟩ := trodVars_none hV
  obtain ⟨b0, b1, b2, y0, y1, y2, n, rfl, hd, hp, t0, t1, t2⟩ := Go.Joins.open_agg3 Try.underlying59 (by kernel_rfl) (by kernel_rfl) (hval 0 59 v0 rfl rfl) h0
  obtain ⟨s, hs, _, ws⟩ := DataW.trod_int Try.underlying3 t0
  obtain ⟨e, he, _, we⟩ := DataW.trod_int Try.underlying3 t1
  injection hs with hs _
  injection he with he _
  subst hs he
  obtain ⟨vl, l, hvl, hla, hll⟩ := lines_open t2
  injection hvl with hvl _
  subst hvl
  obtain ⟨A0, ln, cp, rfl⟩ := okWide_slice Try.underlying32 (hval 1 32 v1 rfl rfl)
  have h1' := h1
  obtain ⟨f1, hf1⟩ := h1
  obtain ⟨A, c, zs, hcs, hby, hzc, hzl⟩ := bytesC_open hf1
  simp only [Value.cells] at hcs
  injection hcs with hcs _
  injection hcs with e1 e2 e3
  subst e1 e2 e3
  obtain ⟨at_, rfl, _, _, wat⟩ := open_int Try.underlying60 (hval 2 60 v2 rfl rfl) h2
  have hat := bounds_u16 wat
  have hlt : ∀ x ∈ p0 ++ p1 ++ p2, x.block < W.heap.size := fun x hx => hW'.lt x (by simpa using hx)
  have hlt0 : ∀ x ∈ p0, x.block < W.heap.size := fun x hx => hlt x (by simp [hx])
  have hlt1 : ∀ x ∈ p1, x.block < W.heap.size := fun x hx => hlt x (by simp [hx])
  have hlt2 : ∀ x ∈ p2, x.block < W.heap.size := fun x hx => hlt x (by simp [hx])
  clear hA0 hval0
  unfold maxLen at hll hzl
  refine (back_law W W.heap.size s e at_ b2 l A0 cp zs hla hby hzc (Nat.le_refl _) (by omega) (by omega) hat.1 hat.2).mono fun en W' ⟨hen, hw⟩ => ?_
  subst hen
  have hb : Below W.heap.size W W' := hw.toBelow
  exact ⟨_, rfl, ⟨_, _, _, [], p0 ++ (p1 ++ p2), [], hW', trodAll_mk1 (shut_bool Try.underlying4 true), trodAll_mk3 (Below.trod Try.laidOut (by kernel_rfl) (of_decide_eq_true (by kernel_rfl)) h0 hb hlt0) (Below.trod Try.laidOut (by kernel_rfl) (of_decide_eq_true (by kernel_rfl)) h1' hb hlt1) (Below.trod Try.laidOut (by kernel_rfl) (of_decide_eq_true (by kernel_rfl)) h2 hb hlt2), rfl, hb.frame _, fun h => by cases h⟩⟩

theorem batchBack_holds : Rows.BatchBackSaid :=
  OpenClaim.holds_of_wide 8 Try.f8 rfl rfl rfl rfl rfl rfl rfl ⟨rfl, rfl, rfl, rfl, rfl⟩ rfl rfl rfl rfl rfl (by kernel_rfl) Try.func8 (by kernel_rfl)
    (of_decide_eq_true (by kernel_rfl)) (by unfold Func.isWrapper; first | (rw [if_pos (by decide +kernel)]; kernel_rfl) | (rw [if_neg (by decide +kernel)]; exact ⟨rfl, rfl⟩))
    (fun os started H enc _ => batchBack_lifted os started H enc)
#print axioms batchBack_holds
end Go.Proofs.Ytkempjcdapfopaa
