/- The program's queue drained; Sync and Crash, by contract. Conditions: the store lies in memory as 'StoreAt' says. -/
import Derived.Test.YtkempjcdapfopaaSettleW
namespace Go.Proofs.Ytkempjcdapfopaa
open Go.RowKit
attribute [local go_sem ↓] Go.wp_at_zero Go.wp_at_succ

/-- what all writes that wait come to -/
def settleL (L : Ls) : Ws → (Nat → Int) → Nat → Ls
  | [], _, _ => L
  | x :: W, f, i => settleL (settle1 L x (f i)) W f (i + 1)
theorem settleL_len : ∀ (W : Ws) (L : Ls) (f : Nat → Int) (i : Nat), (settleL L W f i).length = L.length
  | [], _, _, _ => rfl
  | x :: W, L, f, i => by rw [settleL, settleL_len W, settle1_len]
theorem settleL_snoc : ∀ (W : Ws) (L : Ls) (f : Nat → Int) (i : Nat) (x : Nat × Bk), settleL L (W ++ [x]) f i = settle1 (settleL L W f i) x (f (i + W.length))
  | [], L, f, i, x => rfl
  | y :: W, L, f, i, x => by
    rw [List.cons_append, settleL, settleL, settleL_snoc W, List.length_cons]
    congr 2; omega
theorem settleL_take {W : Ws} {k : Nat} (hk : k < W.length) (L : Ls) (f : Nat → Int) : settleL L (W.take (k + 1)) f 0 = settle1 (settleL L (W.take k) f 0) W[k] (f k) := by
  rw [List.take_succ_eq_append_getElem hk, settleL_snoc, List.length_take, Nat.min_eq_left (by omega), Nat.zero_add]

theorem own_row {w : World} {e n : Nat} {v : Value} {W : Ws} (h : w.ownsRow 0 e 65 v n (W.flatMap (fun x => (wc x).toList))) (hn : n = W.length) (hpos : 0 < n) :
    ∃ g cap cur, v = .slice (some ⟨g, 0, none⟩) n cap ∧ Blk w g e cur ∧ n ≤ cap ∧ cur.size = cap * 65 ∧ ∀ k (hk : k < W.length), cur.extract (k * 65) (k * 65 + 65) = wc W[k] := by
  rcases h.2 with ⟨_, h0⟩ | ⟨g, cap, cur, hv, _, hb, hle, _, hsz, htk⟩
  · omega
  · refine ⟨g, cap, cur, hv, hb, hle, hsz, fun k hk => ?_⟩
    have hx := flat_ext size_wc (List.getElem?_eq_getElem hk) 0 65 (by omega)
    simp only [Nat.add_zero, Nat.zero_add] at hx
    have h2 : (wc W[k]).extract 0 65 = wc W[k] := ext_wcells _ _
    rw [h2] at hx
    rw [← hx]
    have hle2 : k * 65 + 65 ≤ n * 65 := by
      have := Nat.mul_le_mul_right 65 (show k + 1 ≤ n by omega)
      omega
    apply Array.ext_getElem?
    intro j
    have hflat : (flat wc W) = (cur.toList.take (n * 65)).toArray := by unfold flat; rw [htk]
    have hs : n * 65 ≤ cur.size := by rw [hsz]; exact Nat.mul_le_mul_right 65 hle
    rw [hflat]
    simp only [Array.getElem?_extract, List.getElem?_toArray, List.getElem?_take, List.size_toArray, List.length_take, Array.length_toList]
    by_cases hj : j < 65
    · rw [if_pos (by omega), if_pos (by omega), if_pos (by omega)]
      simp
    · rw [if_neg (by omega), if_neg (by omega)]

set_option maxRecDepth 100000 in
set_option maxHeartbeats 1600000 in
theorem drain_some (w : World) (p lb g2 g3 f : Nat) (cap : Array Value) (wv mv : Value) (L : Ls) (W : Ws) (ft : Nat → Int)
    (hg2 : Blk w g2 25 #[.pointer (some ⟨p, 0, none⟩)]) (hg3 : Blk w g3 112 #[.func (.func f) #[] cap])
    (hp : Blk w p 102 #[.slice (some ⟨lb, 0, none⟩) L.length L.length, wv, mv]) (hl : Blk w lb 110 (flat hc L))
    (hw : w.ownsRow 0 140 65 wv W.length (W.flatMap (fun x => (wc x).toList))) (hW : ∀ x ∈ W, x.1 < L.length) (hpos : 0 < W.length) (hmax : W.length ≤ 4096)
    (hcf : ∀ args w, (callFunc f args).run Try.prog w = .ok (.enter f args) w) (ht : ∀ i, i < W.length → ∀ w', Only [lb] w w' → Tells f cap w' i (ft i)) :
    Calls Try.prog 75 #[.pointer (some ⟨p, 1, none⟩), .func (.func 76) #[] #[.pointer (some ⟨g3, 0, none⟩), .pointer (some ⟨g2, 0, none⟩)]] w fun e w' =>
      e = .returned (.tuple #[]) ∧ Blk w' p 102 #[.slice (some ⟨lb, 0, none⟩) L.length L.length, .slice none 0 0, mv] ∧ Blk w' lb 110 (flat hc (settleL L W ft 0)) ∧ Only [p, lb] w w' := by
  obtain ⟨g, cap', cur, rfl, hg, hle, hsz, hext⟩ := own_row hw rfl hpos
  have c1 : w.cell? ⟨p, 1, none⟩ = some (.slice (some ⟨g, 0, none⟩) W.length cap') := by rw [hp.cell]; rfl
  have HH : Hid ((Blk w g2 25 #[.pointer (some ⟨p, 0, none⟩)] ∧ Blk w g3 112 #[.func (.func f) #[] cap] ∧ Blk w p 102 #[.slice (some ⟨lb, 0, none⟩) L.length L.length, .slice (some ⟨g, 0, none⟩) W.length cap', mv] ∧ Blk w lb 110 (flat hc L) ∧ Blk w g 140 cur) ∧ (∀ x ∈ W, x.1 < L.length) ∧ (∀ args w, (callFunc f args).run Try.prog w = .ok (.enter f args) w) ∧ ∀ i, i < W.length → ∀ w', Only [lb] w w' → Tells f cap w' i (ft i)) := hide ⟨⟨hg2, hg3, hp, hl, hg⟩, hW, hcf, ht⟩
  have HX := hide (And.intro hext hsz)
  clear hg2 hg3 hp hl hg hW hcf ht hext hsz hw
  go_enter Try.func75, Try.ntmps75
  go_wp2
  go_loopw [11] (fun i wr => ∃ k : Nat, k ≤ W.length ∧ i = .int .i64 k ∧ Blk wr lb 110 (flat hc (settleL L (W.take k) ft 0)) ∧ Only [lb] w wr) (fun i _ => W.length - (intOf i).toNat)
  case atStart => exact ⟨0, Nat.zero_le _, rfl, by simpa [settleL] using HH.out.1.2.2.2.1, Only.refl _ _⟩
  case round =>
    obtain ⟨k, hk, rfl, hl, ho⟩ := hrel
    by_cases hlt : k < W.length
    · have hgr : Blk wr g 140 cur := HH.out.1.2.2.2.2.only ho (by simp; exact HH.out.1.2.2.2.2.ne_ HH.out.1.2.2.2.1 (by decide))
      have hr : row wr g (k * 65) 65 = some (wcells W[k].1 W[k].2) := by
        rw [hgr.row _ _ (by have := HX.out.2; have := Nat.mul_le_mul_right 65 (show k + 1 ≤ cap' by omega); omega), HX.out.1 k hlt]; rfl
      have lg := hgr.lt
      clear hgr
      have HL := hide hl
      have HO := hide ho
      clear hl ho
      go_wp2_with fail
      have ho1 : Only [lb] w (wr.alloc (Obj.cells (wcells (↑W[k].1) W[k].2) 140)) := HO.out.alloc _
      have hd2 := HH.out.1.1.ne_ HH.out.1.2.2.2.1 (by decide)
      have hd3 := HH.out.1.2.1.ne_ HH.out.1.2.2.2.1 (by decide)
      have hdp := HH.out.1.2.2.1.ne_ HH.out.1.2.2.2.1 (by decide)
      refine (settle1_any _ p lb g2 g3 f cap (.slice (some ⟨g, 0, none⟩) W.length cap') mv (settleL L (W.take k) ft 0) k W[k].1 W[k].2 (HH.out.1.1.only ho1 (by simp; exact hd2)) (HH.out.1.2.1.only ho1 (by simp; exact hd3))
        (by rw [settleL_len]; exact HH.out.1.2.2.1.only ho1 (by simp; exact hdp)) (HL.out.alloc _) (by rw [settleL_len]; exact HH.out.2.1 _ (List.getElem_mem hlt)) HH.out.2.2.1 (ft k) (HH.out.2.2.2 k hlt _ (ho1.alloc _))).mono ?_
      rintro e w2 ⟨rfl, hl2, ho2⟩
      have hl3 : Blk w2 lb 110 (flat hc (settleL L (W.take (k + 1)) ft 0)) := by rw [settleL_take hlt]; exact hl2
      have ho3 : Only [lb] w w2 := ho1.trans ho2 (fun x hx => hx) (fun x hx _ => hx)
      clear hl2 ho2 ho1 HL HO hr
      go_wp2
      go_roundw
      case rel => exact ⟨k + 1, by omega, by go_num, hl3, ho3⟩
      case measure => simp [intOf]; omega
    · have hkn : k = W.length := by omega
      subst hkn
      have cp : wr.cell? ⟨p, 1, none⟩ = some (.slice (some ⟨g, 0, none⟩) W.length cap') := by
        rw [(HH.out.1.2.2.1.only ho (by simp; exact HH.out.1.2.2.1.ne_ HH.out.1.2.2.2.1 (by decide))).cell]; rfl
      have cf : wr.frozen? ⟨p, 1, none⟩ = false := (HH.out.1.2.2.1.only ho (by simp; exact HH.out.1.2.2.1.ne_ HH.out.1.2.2.2.1 (by decide))).frozen 1
      have HL := hide hl
      have HO := hide ho
      clear hl ho
      go_wp2
      go_end0
      have hdp := HH.out.1.2.2.1.ne_ HH.out.1.2.2.2.1 (by decide)
      refine ⟨rfl, ?_, ?_, (HO.out.mono (by simp)).setCell (.inl (by simp)) _⟩
      · have := (HH.out.1.2.2.1.only HO.out (by simp; exact hdp)).set_ 1 (.slice none 0 0)
        simpa using this
      · have := HL.out.far (p := ⟨p, 1, none⟩) (Ne.symm hdp) (.slice none 0 0)
        simpa using this

set_option maxRecDepth 100000 in
theorem drain_none (w : World) (p lb : Nat) (a0 dv : Value) (ad : Option Addr) (c : Nat) (mv : Value) (hp : Blk w p 102 #[a0, .slice ad 0 c, mv]) :
    Calls Try.prog 75 #[.pointer (some ⟨p, 1, none⟩), dv] w fun e w' => e = .returned (.tuple #[]) ∧ Blk w' p 102 #[a0, .slice none 0 0, mv] ∧ Only [p] w w' := by
  have c1 : w.cell? ⟨p, 1, none⟩ = some (.slice ad 0 c) := by rw [hp.cell]; rfl
  have cf : w.frozen? ⟨p, 1, none⟩ = false := hp.frozen 1
  have HP := hide hp
  clear hp
  go_enter Try.func75, Try.ntmps75
  go_wp2
  refine wp_loop_rounds 1 ?_
  rw [rounds_succ]
  go_wp2
  go_end0
  refine ⟨rfl, ?_, (Only.refl [p] w).setCell (.inl (by simp)) _⟩
  have := HP.out.set_ 1 (.slice none 0 0)
  simpa using this

theorem drain_any (w : World) (p lb g2 g3 f : Nat) (cap : Array Value) (wv mv : Value) (L : Ls) (W : Ws) (ft : Nat → Int)
    (hg2 : Blk w g2 25 #[.pointer (some ⟨p, 0, none⟩)]) (hg3 : Blk w g3 112 #[.func (.func f) #[] cap])
    (hp : Blk w p 102 #[.slice (some ⟨lb, 0, none⟩) L.length L.length, wv, mv]) (hl : Blk w lb 110 (flat hc L))
    (hw : w.ownsRow 0 140 65 wv W.length (W.flatMap (fun x => (wc x).toList))) (hW : ∀ x ∈ W, x.1 < L.length) (hmax : W.length ≤ 4096)
    (hcf : ∀ args w, (callFunc f args).run Try.prog w = .ok (.enter f args) w) (ht : ∀ i, i < W.length → ∀ w', Only [lb] w w' → Tells f cap w' i (ft i)) :
    Calls Try.prog 75 #[.pointer (some ⟨p, 1, none⟩), .func (.func 76) #[] #[.pointer (some ⟨g3, 0, none⟩), .pointer (some ⟨g2, 0, none⟩)]] w fun e w' =>
      e = .returned (.tuple #[]) ∧ Blk w' p 102 #[.slice (some ⟨lb, 0, none⟩) L.length L.length, .slice none 0 0, mv] ∧ Blk w' lb 110 (flat hc (settleL L W ft 0)) ∧ Only [p, lb] w w' := by
  rcases Nat.eq_zero_or_pos W.length with h0 | hpos
  · have hWn : W = [] := List.eq_nil_of_length_eq_zero h0
    subst hWn
    obtain ⟨ad, c, rfl⟩ := ownsRow_val hw
    refine (drain_none w p lb _ _ ad c mv hp).mono ?_
    rintro e w' ⟨he, hb, ho⟩
    exact ⟨he, hb, hl.only ho (by simp; exact hl.ne_ hp (by decide)), ho.mono (by simp)⟩
  · exact drain_some w p lb g2 g3 f cap wv mv L W ft hg2 hg3 hp hl hw hW hpos hmax hcf ht

set_option maxRecDepth 100000 in
set_option maxHeartbeats 800000 in
theorem settle_any (w : World) (p f : Nat) (F : List Nat) (cap : Array Value) (L : Ls) (W : Ws) (ft : Nat → Int) (h : StoreAt w p F L W)
    (hcf : ∀ args w, (callFunc f args).run Try.prog w = .ok (.enter f args) w) (ht : ∀ i, i < W.length → ∀ w', Only F w w' → Tells f cap w' i (ft i)) :
    Calls Try.prog 50 #[.pointer (some ⟨p, 0, none⟩), .func (.func f) #[] cap] w fun e w' => e = .returned (.int .i64 0) ∧ Moved w w' p F (settleL L W ft 0) [] := by
  have hmf : ∀ (fn : Fn) (first cap : Array Value) (w : World), (Instr.makeFunc fn first cap).run Try.prog w = .ok (.func fn first cap) w := fun _ _ _ _ => rfl
  have HS := hide h
  have HF := hide (And.intro hcf ht)
  clear h hcf ht
  go_enter Try.func50, Try.ntmps50
  go_wp2_with fail
  obtain ⟨lb, mb, wv, hF, hp, hl, hm, hw, hr⟩ := HS.out
  have O1 : Only [] w ((w.alloc (.cells #[.pointer (some ⟨p, 0, none⟩)] 25)).alloc (.cells #[.func (.func f) #[] cap] 112)) := ((Only.refl [] w).alloc _).alloc _
  have hg2 : Blk ((w.alloc (.cells #[.pointer (some ⟨p, 0, none⟩)] 25)).alloc (.cells #[.func (.func f) #[] cap] 112)) w.heap.size 25 #[.pointer (some ⟨p, 0, none⟩)] := (Blk.new w 25 _).alloc _
  have hg3 : Blk ((w.alloc (.cells #[.pointer (some ⟨p, 0, none⟩)] 25)).alloc (.cells #[.func (.func f) #[] cap] 112)) (w.heap.size + 1) 112 #[.func (.func f) #[] cap] := by
    have := Blk.new (w.alloc (.cells #[.pointer (some ⟨p, 0, none⟩)] 25)) 112 #[.func (.func f) #[] cap]
    simpa using this
  have lp := hp.lt
  have ll := hl.lt
  have lm := hm.lt
  have ne1 := hl.ne_ hp (by decide)
  have ne2 := hm.ne hp
  have ne3 := hm.ne hl
  refine (drain_any _ p lb w.heap.size (w.heap.size + 1) f cap wv (.map (some mb)) L W ft hg2 hg3 (hp.only O1 (by simp)) (hl.only O1 (by simp)) (ownsRow_only hw O1 (by simp)) hr.2.2 hr.2.1 HF.out.1
    (fun i hi w' ho => HF.out.2 i hi w' (O1.trans ho (by simp) (fun x hx _ => by rw [hF]; simp at hx ⊢; exact .inr (.inl hx))))).mono ?_
  rintro e w2 ⟨rfl, hp2, hl2, ho2⟩
  have hm2 : MapAt w2 mb (lastOf W) := (hm.only O1 (by simp)).only ho2 (by simp; exact ⟨ne2, ne3⟩)
  obtain ⟨w3, hclr, hm3, ho3⟩ := run_clear97 hm2
  have hb2 : Blk w2 w.heap.size 25 #[.pointer (some ⟨p, 0, none⟩)] := hg2.only ho2 (by simp; omega)
  have k1 : w2.cell? ⟨w.heap.size, 0, none⟩ = some (.pointer (some ⟨p, 0, none⟩)) := by rw [hb2.cell]; rfl
  have k2 : w2.cell? ⟨p, 2, none⟩ = some (.map (some mb)) := by rw [hp2.cell]; rfl
  have HP := hide (And.intro hp2 hl2)
  have HO := hide (And.intro O1 ho2)
  have HR := hide (And.intro hF hr)
  clear hp2 hl2 O1 ho2 hF hr hg2 hg3 hp hl hm hw hb2
  go_wp2
  go_ret
  refine ⟨rfl, p :: lb :: mb :: [], ⟨lb, mb, .slice none 0 0, rfl, ?_, HP.out.2.only ho3 (by simp; exact Ne.symm ne3), hm3, ⟨rfl, .inl ⟨rfl, rfl⟩⟩, by rw [settleL_len]; exact HR.out.2.1, by simp, by simp⟩, ?_, ?_⟩
  · rw [settleL_len]; exact HP.out.1.only ho3 (by simp; exact Ne.symm ne2)
  · rw [HR.out.1]
    exact (HO.out.1.trans HO.out.2 (H := p :: lb :: mb :: wv.ownBlock.toList) (by simp) (fun x hx _ => by simp at hx ⊢; rcases hx with h | h; exact .inl h; exact .inr (.inl h))).trans ho3 (fun x hx => hx) (by simp)
  · intro x hx
    rw [HR.out.1]
    left
    simp at hx ⊢
    rcases hx with h | h | h
    · exact .inl h
    · exact .inr (.inl h)
    · exact .inr (.inr (.inl h))

theorem settle_nil (w : World) (f : Nat) (cap : Array Value) : Calls Try.prog 50 #[.pointer none, .func (.func f) #[] cap] w fun e w' => e = .returned (.int .i64 1) ∧ Only [] w w' := by
  go_enter Try.func50, Try.ntmps50
  go_wp2
  go_ret
  exact ⟨rfl, ((Only.refl [] w).alloc _).alloc _⟩

theorem tells_one (w : World) (i : Nat) : Tells 51 #[] w i 1 := by
  unfold Tells
  simp only [Array.append_empty]
  go_enter Try.func51, Try.ntmps51
  go_wp2
  go_ret
  exact ⟨rfl, rfl⟩

theorem sync_any (w : World) (p : Nat) (F : List Nat) (L : Ls) (W : Ws) (h : StoreAt w p F L W) :
    Calls Try.prog 27 #[.pointer (some ⟨p, 0, none⟩)] w fun e w' => e = .returned (.int .i64 0) ∧ Moved w w' p F (settleL L W (fun _ => 1) 0) [] := by
  have HS := hide h
  clear h
  go_enter Try.func27, Try.ntmps27
  go_wp2_with fail
  refine (settle_any _ p 51 F #[] L W (fun _ => 1) HS.out cf51 (fun i _ w' _ => tells_one w' i)).mono ?_
  rintro e w2 ⟨rfl, hm⟩
  have HM := hide hm
  clear hm
  go_wp2
  go_ret
  exact ⟨rfl, HM.out⟩
theorem sync_nil (w : World) : Calls Try.prog 27 #[.pointer none] w fun e w' => e = .returned (.int .i64 1) ∧ Only [] w w' := by
  go_enter Try.func27, Try.ntmps27
  go_wp2_with fail
  refine (settle_nil _ _ _).mono ?_
  rintro e w2 ⟨rfl, ho⟩
  have HM := hide ho
  clear ho
  go_wp2
  go_ret
  exact ⟨rfl, HM.out⟩

/-- fates that lie in memory below block B: a row of bytes -/
def Bytes (w : World) (B : Nat) (v : Value) (zs : List Int) : Prop :=
  ∃ A c, v = .slice A zs.length c ∧ (∀ z ∈ zs, 0 ≤ z ∧ z < 256) ∧ (0 < zs.length → ∃ b o, A = some ⟨b, o, none⟩ ∧ b < B ∧ ∀ j (hj : j < zs.length), w.cell? ⟨b, o + j, none⟩ = some (.int .u8 zs[j]))
def fateOf (zs : List Int) (i : Nat) : Int := if i < zs.length then zs.getD i 0 % 3 else 0

set_option maxRecDepth 100000 in
theorem tells_crash (w : World) (g B : Nat) (v : Value) (zs : List Int) (i : Nat) (hi : i < 4096) (hv : Bytes w B v zs) (hg : w.cell? ⟨g, 0, none⟩ = some v) : Tells 52 #[.pointer (some ⟨g, 0, none⟩)] w i (fateOf zs i) := by
  unfold Tells
  obtain ⟨A, c, rfl, hz, ha⟩ := hv
  by_cases hlt : i < zs.length
  · obtain ⟨b, o, rfl, hb, hc⟩ := ha (by omega)
    have hci := hc i hlt
    have hzi := hz _ (List.getElem_mem hlt)
    have hf : fateOf zs i = zs[i] % 3 := by unfold fateOf; rw [if_pos hlt]; simp [List.getElem?_eq_getElem hlt]
    rw [hf]
    have z0 := hzi.1
    have z1 := hzi.2
    generalize zs[i] = z at *
    clear hc hz ha hzi hf
    simp only [List.push_toArray, List.append_toArray, List.cons_append, List.nil_append]
    go_enter Try.func52, Try.ntmps52
    go_wp2
    go_ret
    exact ⟨rfl, rfl⟩
  · have hf : fateOf zs i = 0 := by unfold fateOf; rw [if_neg hlt]
    rw [hf]
    have hle : zs.length ≤ i := by omega
    clear ha hz hlt hf
    simp only [List.push_toArray, List.append_toArray, List.cons_append, List.nil_append]
    go_enter Try.func52, Try.ntmps52
    go_wp2
    go_ret
    exact ⟨rfl, rfl⟩

theorem Bytes.only {w w' : World} {B : Nat} {F : List Nat} {v : Value} {zs : List Int} (h : Bytes w B v zs) (ho : Only F w w') (hB : B ≤ w.heap.size) (hF : ∀ x ∈ F, B ≤ x) : Bytes w' B v zs := by
  obtain ⟨A, c, rfl, hz, ha⟩ := h
  refine ⟨A, c, rfl, hz, fun hp => ?_⟩
  obtain ⟨b, o, hA, hb, hc⟩ := ha hp
  refine ⟨b, o, hA, hb, fun j hj => ?_⟩
  have : w'.heap[b]? = w.heap[b]? := ho.block b (by omega) (fun hm => by have := hF _ hm; omega)
  rw [← hc j hj]
  exact World.cell?_of_block this
theorem crash_gen (w : World) (p B : Nat) (F : List Nat) (L : Ls) (W : Ws) (v : Value) (zs : List Int) (h : StoreAt w p F L W) (hv : ∀ w', Only F w w' → Bytes w' B v zs) :
    Calls Try.prog 28 #[.pointer (some ⟨p, 0, none⟩), v] w fun e w' => e = .returned (.int .i64 0) ∧ Moved w w' p F (settleL L W (fateOf zs) 0) [] := by
  obtain ⟨A, c, rfl, hz, ha⟩ := hv w (Only.refl _ _)
  have hmf : ∀ (fn : Fn) (first cap : Array Value) (w : World), (Instr.makeFunc fn first cap).run Try.prog w = .ok (.func fn first cap) w := fun _ _ _ _ => rfl
  have HS := hide (And.intro h hv)
  clear h hz ha hv
  go_enter Try.func28, Try.ntmps28
  go_wp2_with fail
  have O1 : Only [] w (w.alloc (.cells #[.slice A zs.length c] 32)) := (Only.refl [] w).alloc _
  have hb := Blk.new w 32 #[.slice A zs.length c]
  refine (settle_any _ p 52 F #[.pointer (some ⟨w.heap.size, 0, none⟩)] L W (fateOf zs) (HS.out.1.only O1 (by simp)) cf52 (fun i hi w' ho => ?_)).mono ?_
  · have hle : W.length ≤ 4096 := by obtain ⟨_, _, _, _, _, _, _, _, hr⟩ := HS.out.1; exact hr.2.1
    refine tells_crash w' _ B _ zs i (by omega) (HS.out.2 w' (O1.trans ho (by simp) (fun x hx _ => hx))) ?_
    have : Blk w' w.heap.size 32 #[.slice A zs.length c] := hb.only ho (fun hm => by have := HS.out.1.lt _ hm; omega)
    rw [this.cell]; rfl
  · rintro e w2 ⟨rfl, hm⟩
    have HM := hide hm
    clear hm
    go_wp2
    go_ret
    refine ⟨rfl, ?_⟩
    obtain ⟨F', h1, h2, h3⟩ := HM.out
    exact ⟨F', h1, O1.trans h2 (by simp) (fun x hx _ => hx), fun x hx => by
      rcases h3 x hx with h | h
      · exact .inl h
      · right; have := O1.size; omega⟩
theorem crash_any (w : World) (p B : Nat) (F : List Nat) (L : Ls) (W : Ws) (v : Value) (zs : List Int) (h : StoreAt w p F L W) (hv : Bytes w B v zs) (hB : B ≤ w.heap.size) (hF : ∀ x ∈ F, B ≤ x) :
    Calls Try.prog 28 #[.pointer (some ⟨p, 0, none⟩), v] w fun e w' => e = .returned (.int .i64 0) ∧ Moved w w' p F (settleL L W (fateOf zs) 0) [] :=
  crash_gen w p B F L W v zs h (fun w' ho => hv.only ho hB hF)
/-- bytes in one block of their own -/
theorem Bytes.far {w w' : World} {B : Nat} {F : List Nat} {v : Value} {zs : List Int} (h : Bytes w B v zs) (ho : Only F w w') (hF : ∀ g, v.ownBlock = some g → g ∉ F) : Bytes w' B v zs := by
  obtain ⟨A, c, rfl, hz, ha⟩ := h
  refine ⟨A, c, rfl, hz, fun hp => ?_⟩
  obtain ⟨b, o, rfl, hb, hc⟩ := ha hp
  refine ⟨b, o, rfl, hb, fun j hj => ?_⟩
  have hlt : b < w.heap.size := World.block_lt_of_cell? w _ (hc j hj)
  rw [← hc j hj]
  exact World.cell?_of_block (ho.block b hlt (hF b rfl))
end Go.Proofs.Ytkempjcdapfopaa
