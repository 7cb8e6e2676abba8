/- The statements' steps over a store: great, do, by contract. Conditions: the steps lie in memory as 'OpsAt' says. -/
import Derived.Test.YtkempjcdapfopaaOfW
namespace Go.Proofs.Ytkempjcdapfopaa
open Go.RowKit
attribute [local go_sem ↓] Go.wp_at_zero Go.wp_at_succ

/-- a step: its kind, its place, its bytes, its fates -/
structure OpX where
  kind : Int
  at_ : Int
  b : List Int
  f : List Int
  hb : ∀ z ∈ b, 0 ≤ z ∧ z < 256

def OpVal (w : World) (B : Nat) (x : OpX) (bv fv : Value) : Prop := Bytes w B bv x.b ∧ Bytes w B fv x.f
/-- steps that lie in memory below block B -/
def OpsAt (w : World) (B : Nat) (v : Value) (l : List OpX) : Prop :=
  ∃ A c, v = .slice A l.length c ∧ (0 < l.length → ∃ b o, A = some ⟨b, o, none⟩ ∧ b < B ∧ ∀ j (hj : j < l.length), ∃ bv fv,
    w.cell? ⟨b, o + j * 4, none⟩ = some (.int .i64 l[j].kind) ∧ w.cell? ⟨b, o + j * 4 + 1, none⟩ = some (.int .i64 l[j].at_) ∧
    w.cell? ⟨b, o + j * 4 + 2, none⟩ = some bv ∧ w.cell? ⟨b, o + j * 4 + 3, none⟩ = some fv ∧ OpVal w B l[j] bv fv)
theorem OpVal.only {w w' : World} {B : Nat} {F : List Nat} {x : OpX} {bv fv : Value} (h : OpVal w B x bv fv) (ho : Only F w w') (hB : B ≤ w.heap.size) (hF : ∀ y ∈ F, B ≤ y) : OpVal w' B x bv fv :=
  ⟨h.1.only ho hB hF, h.2.only ho hB hF⟩
theorem OpsAt.only {w w' : World} {B : Nat} {F : List Nat} {v : Value} {l : List OpX} (h : OpsAt w B v l) (ho : Only F w w') (hB : B ≤ w.heap.size) (hF : ∀ x ∈ F, B ≤ x) : OpsAt w' B v l := by
  obtain ⟨A, c, rfl, ha⟩ := h
  refine ⟨A, c, rfl, fun hp => ?_⟩
  obtain ⟨b, o, hA, hb, hc⟩ := ha hp
  refine ⟨b, o, hA, hb, fun j hj => ?_⟩
  obtain ⟨bv, fv, h0, h1, h2, h3, hv⟩ := hc j hj
  have hbl : w'.heap[b]? = w.heap[b]? := ho.block b (by omega) (fun hm => by have := hF _ hm; omega)
  have hk : ∀ i, w'.cell? ⟨b, i, none⟩ = w.cell? ⟨b, i, none⟩ := fun i => World.cell?_of_block hbl
  exact ⟨bv, fv, by rw [hk]; exact h0, by rw [hk]; exact h1, by rw [hk]; exact h2, by rw [hk]; exact h3, hv.only ho hB hF⟩

theorem Bytes.val {w : World} {B : Nat} {v : Value} {zs : List Int} (h : Bytes w B v zs) : ∃ A c, v = .slice A zs.length c := by
  obtain ⟨A, c, hv, _⟩ := h; exact ⟨A, c, hv⟩

/-- what 'great' tells -/
def GreatPost (l : List OpX) (w : World) (e : Ending) (w' : World) : Prop :=
  ∃ r : Bool, e = .returned (.bool r) ∧ Only [] w w' ∧ (r = false → (∀ x ∈ l, x.f.length ≤ 1000 ∧ x.b.length ≤ 1000) ∧ l.length ≤ 200)

set_option maxRecDepth 100000 in
set_option maxHeartbeats 1600000 in
theorem great_any (w : World) (B : Nat) (v : Value) (l : List OpX) (h : OpsAt w B v l) (hB : B ≤ w.heap.size) (hmax : l.length ≤ 9223372036854775807) :
    Calls Try.prog 15 #[v] w (GreatPost l w) := by
  obtain ⟨A, c, rfl, ha⟩ := h
  have HA := hide ha
  clear ha
  go_enter Try.func15, Try.ntmps15
  go_wp2
  go_loopw [7] (fun i wr => ∃ k : Nat, k ≤ l.length ∧ i = .int .i64 k ∧ (∀ j (hj : j < l.length), j < k → l[j].f.length ≤ 1000 ∧ l[j].b.length ≤ 1000) ∧ Only [] w wr) (fun i _ => l.length - (intOf i).toNat)
  case atStart => exact ⟨0, Nat.zero_le _, rfl, fun j hj h => by omega, Only.refl _ _⟩
  case round =>
    obtain ⟨k, hk, rfl, hall, ho⟩ := hrel
    have HL := hide hall
    clear hall
    by_cases hlt : k < l.length
    · obtain ⟨b, o, hA, hbB, hc⟩ := HA.out (by omega)
      obtain ⟨bv, fv, h0, h1, h2, h3, hvb, hvf⟩ := hc k hlt
      obtain ⟨Ab, cb, rfl⟩ := hvb.val
      obtain ⟨Af, cf, rfl⟩ := hvf.val
      have lb : b < w.heap.size := World.block_lt_of_cell? w _ h0
      have hbl : wr.heap[b]? = w.heap[b]? := ho.block b lb (by simp)
      have kk : ∀ i, wr.cell? ⟨b, i, none⟩ = w.cell? ⟨b, i, none⟩ := fun i => World.cell?_of_block hbl
      rw [← kk] at h0 h1 h2 h3
      subst hA
      have HO := hide ho
      clear hc hvb hvf kk hbl ho lb
      generalize hkd : l[k].kind = kd at *
      generalize hat : l[k].at_ = att at *
      clear hkd hat
      generalize hbn : l[k].b.length = bn at *
      generalize hfn : l[k].f.length = fn at *
      have HN := hide (And.intro hbn hfn)
      clear hbn hfn
      by_cases hf : fn > 1000
      · go_wp2
        go_ret
        exact ⟨true, rfl, HO.out.alloc _, by simp⟩
      · have hf' : (fn : Int) ≤ 1000 := by omega
        by_cases hbg : bn > 1000
        · go_wp2
          go_ret
          exact ⟨true, rfl, HO.out.alloc _, by simp⟩
        · have hb' : (bn : Int) ≤ 1000 := by omega
          go_wp2
          go_roundw
          case rel =>
            refine ⟨k + 1, by omega, by go_num, fun j hj hjk => ?_, HO.out.alloc _⟩
            by_cases hjk' : j < k
            · exact HL.out j hj hjk'
            · have : j = k := by omega
              subst this
              have := HN.out
              omega
          case measure => simp [intOf]; omega
    · have hge : (l.length : Int) ≤ (k : Int) := by omega
      have HO := hide ho
      clear ho
      go_wp2
      go_ret
      refine ⟨decide ((200 : Int) < l.length), rfl, HO.out, fun hr => ⟨fun x hx => ?_, ?_⟩⟩
      · obtain ⟨j, hj, rfl⟩ := List.mem_iff_getElem.1 hx
        exact HL.out j hj (by omega)
      · simp at hr; omega

/-- what a step comes to -/
def stE (L : Ls) (W : Ws) (x : OpX) : Int := if x.kind = 1 then wrE L W x.at_ else 0
def stL (L : Ls) (W : Ws) (x : OpX) : Ls := if x.kind = 2 then settleL L W (fun _ => 1) 0 else if x.kind = 3 then settleL L W (fateOf x.f) 0 else L
def stW (L : Ls) (W : Ws) (x : OpX) : Ws := if x.kind = 1 then wrW L W x.at_ (ofB x.b x.hb) else if x.kind = 2 then [] else if x.kind = 3 then [] else W

theorem Moved.pre {w w1 w' : World} {p : Nat} {F : List Nat} {L : Ls} {W : Ws} (h : Moved w1 w' p F L W) (ho : Only [] w w1) : Moved w w' p F L W := by
  obtain ⟨F', h1, h2, h3⟩ := h
  exact ⟨F', h1, ho.trans h2 (by simp) (fun x hx _ => hx), fun x hx => by
    rcases h3 x hx with h | h
    · exact .inl h
    · right; have := ho.size; omega⟩

set_option maxRecDepth 100000 in
set_option maxHeartbeats 1600000 in
theorem do_any (w : World) (p B : Nat) (F : List Nat) (L : Ls) (W : Ws) (x : OpX) (bv fv : Value) (h : StoreAt w p F L W) (hv : OpVal w B x bv fv) (hB : B ≤ w.heap.size) (hF : ∀ y ∈ F, B ≤ y) (hmax : x.b.length ≤ 1000) :
    Calls Try.prog 18 #[.pointer (some ⟨p, 0, none⟩), .agg #[.int .i64 x.kind, .int .i64 x.at_, bv, fv]] w fun e w' => e = .returned (.int .i64 (stE L W x)) ∧ Moved w w' p F (stL L W x) (stW L W x) := by
  have HS := hide (And.intro h hv)
  obtain ⟨Ab, cb, rfl⟩ := hv.1.val
  obtain ⟨Af, cf, rfl⟩ := hv.2.val
  clear h hv
  rcases x with ⟨kd, att, b, f, hxb⟩
  simp only at *
  by_cases h1 : kd = 1
  · subst h1
    go_enter Try.func18, Try.ntmps18
    go_wp2
    have O1 : Only [] w ((w.alloc (Obj.cells #[.int .i64 1, .int .i64 att, .slice Ab b.length cb, .slice Af f.length cf] 34)).drew) := ((Only.refl [] w).alloc _).drew
    have hb1 : Blk ((w.alloc (Obj.cells #[.int .i64 1, .int .i64 att, .slice Ab b.length cb, .slice Af f.length cf] 34)).drew) w.heap.size 34 #[.int .i64 1, .int .i64 att, .slice Ab b.length cb, .slice Af f.length cf] := (Blk.new w 34 _).drew
    have hlt := HS.out.1.lt
    go_region_held3 (fun w' => w'.cell? ⟨w.heap.size, 1, none⟩ = some (.int .i64 att) ∧ w'.cell? ⟨w.heap.size, 2, none⟩ = some (.slice Ab b.length cb))
      (first
        | (exact ⟨by rw [hb3.cell]; rfl, by rw [hb3.cell]; rfl⟩)
        | (exact ⟨by rw [hb2.cell]; rfl, by rw [hb2.cell]; rfl⟩)
        | (exact ⟨by rw [hb1.cell]; rfl, by rw [hb1.cell]; rfl⟩))
      (first
        | (go_at_call 20
           refine (of_any _ B _ b (HS.out.2.1.only O1 hB (by simp)) hxb (by omega) (by have := O1.size; omega)).mono ?_
           rintro e w2 ⟨rfl, ho2⟩
           have hb2 : Blk w2 w.heap.size 34 #[.int .i64 1, .int .i64 att, .slice Ab b.length cb, .slice Af f.length cf] := hb1.only ho2 (by simp))
        | (go_at_call 43
           refine (write_any _ p F L W att (ofB b hxb) ((HS.out.1.only O1 (by simp)).only ho2 (by simp))).mono ?_
           rintro e w3 ⟨rfl, hm3⟩
           have hb3 : Blk w3 w.heap.size 34 #[.int .i64 1, .int .i64 att, .slice Ab b.length cb, .slice Af f.length cf] := by
             obtain ⟨F', _, ho, _⟩ := hm3
             exact hb2.only ho (fun hm => by have := hlt _ hm; omega)))
    go_wp2
    go_ret
    exact ⟨rfl, hm3.pre (O1.trans ho2 (by simp) (by simp))⟩
  · have h1' : (kd == 1) = false := by simp [h1]
    by_cases h2 : kd = 2
    · subst h2
      go_enter Try.func18, Try.ntmps18
      go_wp2_with fail
      have O1 : Only [] w (w.alloc (Obj.cells #[.int .i64 2, .int .i64 att, .slice Ab b.length cb, .slice Af f.length cf] 34)) := (Only.refl [] w).alloc _
      refine (sync_any _ p F L W (HS.out.1.only O1 (by simp))).mono ?_
      rintro e w2 ⟨rfl, hm⟩
      have HM := hide (And.intro hm O1)
      clear hm O1
      go_wp2
      go_ret
      exact ⟨rfl, HM.out.1.pre HM.out.2⟩
    · have h2' : (kd == 2) = false := by simp [h2]
      by_cases h3 : kd = 3
      · subst h3
        go_enter Try.func18, Try.ntmps18
        go_wp2_with fail
        have O1 : Only [] w (w.alloc (Obj.cells #[.int .i64 3, .int .i64 att, .slice Ab b.length cb, .slice Af f.length cf] 34)) := (Only.refl [] w).alloc _
        refine (crash_any _ p B F L W _ f (HS.out.1.only O1 (by simp)) (HS.out.2.2.only O1 hB (by simp)) (by have := O1.size; omega) hF).mono ?_
        rintro e w2 ⟨rfl, hm⟩
        have HM := hide (And.intro hm O1)
        clear hm O1
        go_wp2
        go_ret
        exact ⟨rfl, HM.out.1.pre HM.out.2⟩
      · have h3' : (kd == 3) = false := by simp [h3]
        have e1 : stE L W ⟨kd, att, b, f, hxb⟩ = 0 := by simp [stE, h1]
        have e2 : stL L W ⟨kd, att, b, f, hxb⟩ = L := by simp [stL, h2, h3]
        have e3 : stW L W ⟨kd, att, b, f, hxb⟩ = W := by simp [stW, h1, h2, h3]
        rw [e1, e2, e3]
        have HE := hide (And.intro h1 (And.intro h2 h3))
        clear e1 e2 e3 h1 h2 h3
        go_enter Try.func18, Try.ntmps18
        go_wp2
        go_ret
        exact ⟨rfl, Moved.refl HS.out.1 ((Only.refl [] w).alloc _)⟩
end Go.Proofs.Ytkempjcdapfopaa
