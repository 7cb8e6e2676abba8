/- BatchBack walked. Conditions: the lines and the bytes lie in memory as 'LinesAt' and 'Bytes' say. -/
import Derived.Test.YtkempjcdapfopaaFrW
namespace Go.Proofs.Ytkempjcdapfopaa
open Go.RowKit
attribute [local go_sem ↓] Go.wp_at_zero Go.wp_at_succ

theorem Bytes.take {w : World} {B b o c : Nat} {x : List Int} (h : Bytes w B (.slice (some ⟨b, o, none⟩) x.length c) x) (hp : 0 < x.length) (m : Nat) (hm : m ≤ x.length) : Bytes w B (.slice (some ⟨b, o, none⟩) m c) (x.take m) := h.part hp 0 m c (by omega)
theorem bget_len (w : World) (B : Nat) (A : Option Addr) (n c : Nat) (x : List Int) (hB : B ≤ w.heap.size) (hn : x.length = n) (hnc : n ≤ c) (hl : n ≤ 1000000) (hx : Bytes w B (.slice A n c) x) :
    Calls Try.prog 32 #[.slice A n c] w (GetR w x) := by
  subst hn
  exact bget_any w B A c x hB hnc hl hx
theorem run_buildSlice32_0 (w : World) : (buildSliceR 32 0 #[]).run Try.prog w = .ok (.slice (some ⟨w.heap.size, 0, none⟩) 0 0) (w.alloc (.cells #[] 5)) := by kernel_rfl
attribute [local go_sem] run_buildSlice32_0

theorem LinesAt.up {w : World} {B C : Nat} {v : Value} {l : List (Int × Int)} (h : LinesAt w B v l) (hB : B ≤ C) : LinesAt w C v l := by
  obtain ⟨A, c, rfl, hz, ha⟩ := h
  refine ⟨A, c, rfl, hz, fun hp => ?_⟩
  obtain ⟨b, o, hA, hb, hc⟩ := ha hp
  exact ⟨b, o, hA, by omega, hc⟩
theorem bput_any (w : World) (B : Nat) (s e : Int) (v : Value) (l : List (Int × Int)) (h : LinesAt w B v l) (hB : B ≤ w.heap.size) (hl : l.length ≤ 1000000) :
    Calls Try.prog 30 #[.agg #[.int .i64 s, .int .i64 e, v]] w fun en w' => ∃ v', en = .returned (.tuple #[v', .int .i64 (bchk s e l)]) ∧ Only [] w w' ∧ (bchk s e l = 0 → PutOk w s e l en w') := by
  by_cases hc : bchk s e l = 0
  · refine (bput_ok w B s e v l h hB hc).mono fun en w' hp => ?_
    obtain ⟨v', he, ho⟩ := hp
    exact ⟨v', by rw [hc]; exact he, ho.2, fun _ => ⟨v', he, ho⟩⟩
  · exact (bput_bad w B s e v l h hB hl hc).mono fun en w' ⟨he, ho⟩ => ⟨_, he, ho, fun h0 => absurd h0 hc⟩
set_option maxRecDepth 100000 in
set_option maxHeartbeats 3200000 in
theorem back_law (w : World) (B : Nat) (s e at_ : Int) (v : Value) (l : List (Int × Int)) (A : Option Addr) (c : Nat) (x : List Int) (h : LinesAt w B v l) (hx : Bytes w B (.slice A x.length c) x) (hnc : x.length ≤ c) (hB : B ≤ w.heap.size)
    (hl : l.length ≤ 9223372036854775807) (hxl : x.length ≤ 9223372036854775807) (ha0 : 0 ≤ at_) (ha1 : at_ ≤ 65535) :
    Calls Try.prog 8 #[.agg #[.int .i64 s, .int .i64 e, v], .slice A x.length c, .int .u16 at_] w fun en w' => en = .returned (.bool true) ∧ Only [] w w' := by
  have HV := hide (And.intro h hx)
  obtain ⟨Av, cv, rfl, h⟩ := h
  clear h hx
  go_enter Try.func8, Try.ntmps8
  go_wp2_with fail
  refine (alive29 _).mono ?_
  rintro e1 w1 ⟨rfl, ho1⟩
  have O1 := ((Only.refl [] w).alloc (Obj.cells #[.int .i64 s, .int .i64 e, .slice Av l.length cv] 59)).trans ho1 (G := []) (H := []) (by simp) (by simp)
  have hX1 := (Blk.new w 59 #[.int .i64 s, .int .i64 e, .slice Av l.length cv]).only ho1 (by simp)
  have z0 : w1.cell? ⟨w.heap.size, 0, none⟩ = some (.int .i64 s) := by rw [hX1.cell]; rfl
  have z1 : w1.cell? ⟨w.heap.size, 1, none⟩ = some (.int .i64 e) := by rw [hX1.cell]; rfl
  have z2 : w1.cell? ⟨w.heap.size, 2, none⟩ = some (.slice Av l.length cv) := by rw [hX1.cell]; rfl
  have HO := hide (And.intro O1 hX1)
  have l1 := hX1.lt
  clear ho1 O1 hX1
  by_cases hl3 : 300 < l.length
  · have hl3' : (300 : Int) < (l.length : Int) := by omega
    go_wp2
    go_ret
    exact ⟨rfl, HO.out.1⟩
  have hl3' : (l.length : Int) ≤ 300 := by omega
  by_cases hx3 : 3000 < x.length
  · have hx3' : (3000 : Int) < (x.length : Int) := by omega
    go_wp2
    go_ret
    exact ⟨rfl, HO.out.1⟩
  have hx3' : (x.length : Int) ≤ 3000 := by omega
  go_wp2_with fail
  have hs1 := HO.out.1.size
  refine (to31 _ B s e _ l (HV.out.1.only HO.out.1 hB (by simp)) (by omega) (by omega)).mono ?_
  rintro e2 w2 ⟨v2, rfl, hw2⟩
  have hbv : ∀ x ∈ l, (-9223372036854775808 ≤ x.1 ∧ x.1 ≤ 9223372036854775807) ∧ -9223372036854775808 ≤ x.2 ∧ x.2 ≤ 9223372036854775807 := by
    obtain ⟨_, _, _, hz, _⟩ := HV.out.1
    exact hz
  have hL2 := hw2.lines hbv
  obtain ⟨A2, c2, rfl⟩ := ownsRow_val hw2.1
  have hX2 := HO.out.2.only hw2.2 (by simp)
  have HO2 := hide (And.intro (HO.out.1.trans hw2.2 (G := []) (H := []) (by simp) (by simp)) hX2)
  have HL2 := hide hL2
  clear hw2 hL2 hX2 z0 z1 z2
  go_wp2_with fail
  refine (bput_any _ _ s e _ l HL2.out (Nat.le_refl _) (by omega)).mono ?_
  rintro e3 w3 ⟨v3, rfl, hon3, hp⟩
  obtain ⟨r, hr⟩ : ∃ r, r = bchk s e l := ⟨_, rfl⟩
  have hO3 : Only [] w w3 := HO2.out.1.trans hon3 (by simp) (by simp)
  have hX3 := HO2.out.2.only hon3 (by simp)
  rw [← hr]
  have H3 := hide (And.intro hO3 (And.intro hX3 (And.intro hp hr)))
  have l3 := hX3.lt
  clear hr hO3 hX3 hp hon3
  go_upto_if 37 with fail
  go_cut [] (fun wx => Only [] w wx)
  case first =>
    by_cases hr0 : r = 0
    · have hbc : bchk s e l = 0 := by rw [← H3.out.2.2.2]; exact hr0
      subst hr0
      obtain ⟨A3, c3, hve, hob, hcap, hby⟩ := (H3.out.2.2.1 hbc).open hbc
      injection hve with hve
      injection hve with hve
      have hv3 : v3 = .slice A3 (putL s e l).length c3 := by
        have := congrArg (fun a => a[0]?) hve
        simpa using this
      subst hv3
      have hO3 := H3.out.1
      have hX3 := H3.out.2.1
      clear hve
      have hpl := putL_len s e l
      obtain ⟨gC, gS, gE, gL⟩ := get_put hbc
      have hO3 : Only [] w w3 := HO2.out.1.trans hob.2 (by simp) (by simp)
      have hX3 := HO2.out.2.only hob.2 (by simp)
      have HG := hide (And.intro gC (And.intro gS (And.intro gE gL)))
      have HP := hide (And.intro hob (And.intro hO3 (And.intro hX3 (And.intro hby hbc))))
      have hl64 := (bchk_ok hbc).2.1
      clear hob hO3 hX3 hby hbc gC gS gE gL
      have HQ := hide (show putL s e l = putL s e l from rfl)
      generalize hpp : putL s e l = p at *
      have HPP := hide (And.intro hpp hpl)
      have hp0 : (p.length : Int) ≤ 3000 := by omega
      have hp1 : (15 : Int) ≤ (p.length : Int) := by omega
      have hp0' : p.length ≤ 3000 := by omega
      clear hpp HQ hpl
      go_wp2_with fail
      have T3 : Calls Try.prog 32 #[.slice A3 p.length c3] w3 (GetR w3 p) := bget_any w3 _ A3 c3 p (Nat.le_refl _) hcap (by omega) (HP.out.1.bytes HP.out.2.2.2.1)
      ((with_reducible refine T3.mono ?_))
      rintro e4 w4 (⟨h0, _⟩ | ⟨_, v4, rfl, hl4⟩)
      · exact absurd HG.out.1 h0
      rw [HG.out.2.1, HG.out.2.2.1]
      obtain ⟨A4, c4, rfl⟩ := ownsRow_val hl4.1
      have hgl : (linesOf p).length = l.length := by rw [HG.out.2.2.2]
      rw [hgl]
      have hl4' : OwnL 118 w3 w4 (.slice A4 l.length c4) l := by
        have := hl4
        rw [HG.out.2.2.2] at this
        exact this
      have HL4 := hide hl4'
      have hX4 := HP.out.2.2.1.only hl4.2 (by simp)
      have hO4 := HP.out.2.1.trans hl4.2 (G := []) (H := []) (by simp) (by simp)
      have HO4 := hide (And.intro hO4 hX4)
      clear hl4 hl4' hgl hX4 hO4 T3
      obtain ⟨b3, o3, rfl⟩ := (HP.out.1.bytes HP.out.2.2.2.1).addr (by omega)
      have hk0 : 0 ≤ at_ % (p.length : Int) := Int.emod_nonneg _ (by omega)
      have hk1 : at_ % (p.length : Int) < (p.length : Int) := Int.emod_lt_of_pos _ (by omega)
      have hk2 : at_ % (p.length : Int) ≤ (c3 : Int) := by omega
      obtain ⟨kk, hkk⟩ : ∃ kk : Nat, kk = (at_ % (p.length : Int)).toNat := ⟨_, rfl⟩
      have HK := hide hkk
      clear hkk
      go_wp2_with fail
      rw [← HK.out]
      have hkl : kk < p.length := by have := HK.out; omega
      have hB5 : Bytes (w4.alloc (Obj.cells #[.int .i64 s, .int .i64 e, .slice A4 l.length c4] 65)) w3.heap.size (.slice (some ⟨b3, o3, none⟩) p.length c3) p := (HP.out.1.bytes HP.out.2.2.2.1).only (HL4.out.2.alloc _) (Nat.le_refl _) (by simp)
      have hs4 := HL4.out.2.size
      have T5 : Calls Try.prog 32 #[.slice (some ⟨b3, o3, none⟩) kk c3] (w4.alloc (Obj.cells #[.int .i64 s, .int .i64 e, .slice A4 l.length c4] 65)) (GetR _ (p.take kk)) := bget_len _ w3.heap.size _ kk c3 (p.take kk) (by simp; omega) (by simp; omega) (by omega) (by omega) (hB5.take (by omega) kk (by omega))
      have hless : getC (p.take kk) = 14 := by
        have := get_less (s := s) (e := e) (l := l) kk (by rw [HPP.out.1]; exact hkl)
        rw [HPP.out.1] at this
        exact this
      have HLS := hide hless
      have HB5 := hide hB5
      clear hless hB5 hk0 hk1 hk2
      ((with_reducible refine T5.mono ?_))
      rintro e5 w5 (⟨h0, rfl, ho5⟩ | ⟨h0, _⟩)
      rotate_left
      · exfalso; have := HLS.out; omega
      generalize hgc : getC (p.take kk) = cl at *
      have hX5 : Blk w5 w4.heap.size 65 #[.int .i64 s, .int .i64 e, .slice A4 l.length c4] := (Blk.new w4 65 _).only ho5 (by simp)
      have hY5 : Blk w5 w.heap.size 59 #[.int .i64 s, .int .i64 e, .slice Av l.length cv] := (HO4.out.2.alloc _).only ho5 (by simp)
      have hb5 := HB5.out.only ho5 (by simp; omega) (by simp)
      have hn5 := HL4.out.only (((Only.refl [] w4).alloc (Obj.cells #[.int .i64 s, .int .i64 e, .slice A4 l.length c4] 65)).trans ho5 (G := []) (H := []) (by simp) (by simp))
      have hO5 := (HO4.out.1.alloc (Obj.cells #[.int .i64 s, .int .i64 e, .slice A4 l.length c4] 65)).trans ho5 (G := []) (H := []) (by simp) (by simp)
      have l5 := hX5.lt
      have hs5 := ho5.size
      have H5 := hide (And.intro hX5 (And.intro hY5 (And.intro hb5 (And.intro hn5 hO5))))
      clear hX5 hY5 hb5 hn5 hO5 ho5 h0 T5 HB5 hkl HK hgc
      obtain ⟨i0, hi0, hz0, hz1, hz2⟩ := info_parts info5
      have own0 : ((w5.alloc (Obj.cells #[.int .i64 0, .int .i64 0, .slice none 0 0] 65)).alloc (Obj.cells #[] 5)).ownsRow w5.heap.size 5 1 (.slice (some ⟨w5.heap.size + 1, 0, none⟩) 0 0) 0 [] := by
        have := World.ownsRow_made (base := w5.heap.size) (e := 5) (size := 1) (w5.alloc (Obj.cells #[.int .i64 0, .int .i64 0, .slice none 0 0] 65)) #[] 0 (by simp) (by decide) rfl
        simpa using this
      have o0 : Only [] w5 ((w5.alloc (Obj.cells #[.int .i64 0, .int .i64 0, .slice none 0 0] 65)).alloc (Obj.cells #[] 5)) := ((Only.refl [] w5).alloc _).alloc _
      have nw0 : ∀ (j : Nat) u, (byV p)[j]? = some u → ((w5.alloc (Obj.cells #[.int .i64 0, .int .i64 0, .slice none 0 0] 65)).alloc (Obj.cells #[] 5)).cell? ((⟨b3, o3, none⟩ : Addr).add j) = some u := by
        intro j u hj
        have hjl : j < p.length := by
          have := (List.getElem?_eq_some_iff.1 hj).1
          simpa [byV] using this
        have hc := (((H5.out.2.2.1.only o0 (by omega) (by simp)).cell (by omega)).2 j hjl).1
        rw [Addr.add_mid, hc]
        rw [← hj]
        simp [byV, List.getElem?_eq_getElem hjl]
      have H0 := hide (And.intro own0 (And.intro o0 nw0))
      clear own0 o0 nw0
      have hpl0 : p.length ≤ 3000 := by omega
      go_wp2_with (first
        | (at_builtin; refine wpList_append_lies _ rfl (.tmp 55) (.tmp 56) 32 rfl w5.heap.size 5 i0 (.int .u8 0) 1 1 Try.underlying32 hi0 hz0 hz1 hz2 rfl (by decide) _ 0 [] rfl H0.out.1 ⟨b3, o3, none⟩ p.length c3 (byV p) rfl (by simp [byV])
             H0.out.2.2 (fun u hu => by simp only [byV, List.mem_map] at hu; obtain ⟨z, _, rfl⟩ := hu; rfl) (by omega) (by simp only [maxLen]; omega) (by omega) (by simp; omega) (w5.heap.size + 2) (by simp) ?_
           intro g6 cap6 w6 hown6 hgrow6 hat6 hlt6
           have hown6' : w6.ownsRow w5.heap.size 5 1 (.slice (some ⟨g6, 0, none⟩) p.length cap6) p.length (byV p) := by simpa using hown6
           have H6 := hide (And.intro hown6' (H0.out.2.1.grown hgrow6 (fun k hk => .inr (H0.out.1.lt k hk).1)))
           have hs6 := H6.out.2.size
           clear hown6 hown6' hgrow6 hat6 hlt6)
        | (at_builtin; refine wpList_append_lies _ rfl (.tmp 57) (.tmp 60) 32 rfl w5.heap.size 5 i0 (.int .u8 0) 1 1 Try.underlying32 hi0 hz0 hz1 hz2 rfl (by decide) _ p.length (byV p) rfl (H6.out.1.alloc _) ⟨w6.heap.size, 0, none⟩ 1 1 [.int .u8 (at_ % 256)] rfl (by simp)
             (World.news_of_block (cs := #[.int .u8 (at_ % 256)]) (t := 5) (fr := (0, 0)) (heap_alloc_new _ _)) (fun u hu => by simp at hu; subst hu; rfl) (by omega) (by simp only [maxLen]; omega) (by omega) (by simp; omega) (w6.heap.size + 1) (by simp) ?_
           intro g7 cap7 w7 hown7 hgrow7 hat7 hlt7
           have H7 := hide (And.intro hown7 ((H6.out.2.alloc (Obj.cells #[.int .u8 (at_ % 256)] 5)).grown hgrow7 (fun k hk => .inr (H6.out.1.lt k hk).1)))
           have hs7 := H7.out.2.size
           clear hown7 hgrow7 hat7 hlt7))
      have hlast : ∀ z ∈ p ++ [at_ % 256], 0 ≤ z ∧ z < 256 := by
        intro z hz
        simp only [List.mem_append, List.mem_singleton] at hz
        rcases hz with hz | rfl
        · exact HP.out.2.2.2.1 z hz
        · omega
      have hown7 : OwnB w5 w7 (.slice (some ⟨g7, 0, none⟩) (p.length + 1) cap7) (p ++ [at_ % 256]) := by
        refine ⟨?_, H7.out.2⟩
        rw [byV_app, List.length_append, List.length_singleton]
        exact H7.out.1
      have hcap7 := hown7.cap
      rw [List.length_append, List.length_singleton] at hcap7
      have T7 : Calls Try.prog 32 #[.slice (some ⟨g7, 0, none⟩) (p.length + 1) cap7] w7 (GetR w7 (p ++ [at_ % 256])) := bget_len w7 _ _ _ cap7 _ (Nat.le_refl _) (by simp) hcap7 (by omega) (hown7.bytes hlast)
      have hmore : getC (p ++ [at_ % 256]) = 6 := by rw [← HPP.out.1]; exact get_more _
      have HM := hide hmore
      clear hlast hown7 hcap7 hmore
      ((with_reducible refine T7.mono ?_))
      rintro e8 w8 (⟨h0, rfl, ho8⟩ | ⟨h0, _⟩)
      rotate_left
      · exfalso; have := HM.out; omega
      rw [HM.out]
      have o58 : Only [] w5 w8 := H7.out.2.trans ho8 (by simp) (by simp)
      have hX8 := H5.out.1.only o58 (by simp)
      have hY8 := H5.out.2.1.only o58 (by simp)
      have H8 := hide (And.intro (H5.out.2.2.2.1.only o58) (And.intro o58 (And.intro hX8 hY8)))
      have x0 : w8.cell? ⟨w4.heap.size, 0, none⟩ = some (.int .i64 s) := by rw [hX8.cell]; rfl
      have x1 : w8.cell? ⟨w4.heap.size, 1, none⟩ = some (.int .i64 e) := by rw [hX8.cell]; rfl
      have x2 : w8.cell? ⟨w4.heap.size, 2, none⟩ = some (.slice A4 l.length c4) := by rw [hX8.cell]; rfl
      have y0 : w8.cell? ⟨w.heap.size, 0, none⟩ = some (.int .i64 s) := by rw [hY8.cell]; rfl
      have y1 : w8.cell? ⟨w.heap.size, 1, none⟩ = some (.int .i64 e) := by rw [hY8.cell]; rfl
      have y2 : w8.cell? ⟨w.heap.size, 2, none⟩ = some (.slice Av l.length cv) := by rw [hY8.cell]; rfl
      have lx8 := hX8.lt
      have ly8 := hY8.lt
      clear hX8 hY8 o58 ho8 h0 T7
      have hls := HLS.out
      subst hls
      go_upto_region 10 with fail
      have o9 : Only [] w8 (w8.alloc (Obj.cells #[.int .i64 0, .int .i64 0, .slice none 0 0] 65)).drew := ((Only.refl [] w8).alloc _).drew
      have hx9 := H8.out.2.2.1.only o9 (by simp)
      have hy9 := H8.out.2.2.2.only o9 (by simp)
      have hL9 : LinesAt (w8.alloc (Obj.cells #[.int .i64 0, .int .i64 0, .slice none 0 0] 65)).drew w8.heap.size (.slice A4 l.length c4) l := (H8.out.1.lines hbv).only o9 (Nat.le_refl _) (by simp)
      have T9 := from34 _ _ s e _ l hL9 (by have := o9.size; omega) (by omega)
      have ow9 : Only [] w (w8.alloc (Obj.cells #[.int .i64 0, .int .i64 0, .slice none 0 0] 65)).drew := (H5.out.2.2.2.2.trans H8.out.2.1 (G := []) (H := []) (by simp) (by simp)).trans o9 (by simp) (by simp)
      have H9 := hide (And.intro hx9 (And.intro hy9 ow9))
      clear o9 hx9 hy9 hL9 ow9
      first
        | (go_region_held (fun w' => w'.cell? ⟨w4.heap.size, 0, none⟩ = some (.int .i64 s) ∧ w'.cell? ⟨w4.heap.size, 1, none⟩ = some (.int .i64 e) ∧ w'.cell? ⟨w4.heap.size, 2, none⟩ = some (.slice A4 l.length c4) ∧ w'.cell? ⟨w.heap.size, 0, none⟩ = some (.int .i64 s) ∧ w'.cell? ⟨w.heap.size, 1, none⟩ = some (.int .i64 e) ∧ w'.cell? ⟨w.heap.size, 2, none⟩ = some (.slice Av l.length cv))
             (first
               | (exact ⟨by rw [hx11.cell]; rfl, by rw [hx11.cell]; rfl, by rw [hx11.cell]; rfl, by rw [hy11.cell]; rfl, by rw [hy11.cell]; rfl, by rw [hy11.cell]; rfl⟩)
               | (exact ⟨by rw [hx10.cell]; rfl, by rw [hx10.cell]; rfl, by rw [hx10.cell]; rfl, by rw [hy10.cell]; rfl, by rw [hy10.cell]; rfl, by rw [hy10.cell]; rfl⟩)
               | (exact ⟨by rw [H9.out.1.cell]; rfl, by rw [H9.out.1.cell]; rfl, by rw [H9.out.1.cell]; rfl, by rw [H9.out.2.1.cell]; rfl, by rw [H9.out.2.1.cell]; rfl, by rw [H9.out.2.1.cell]; rfl⟩))
             (first
               | (go_at_call 34
                  ((with_reducible refine T9.mono ?_))
                  rintro e10 w10 ⟨v10, rfl, hw10⟩
                  have hx10 := H9.out.1.only hw10.2 (by simp)
                  have hy10 := H9.out.2.1.only hw10.2 (by simp)
                  have ow10 := H9.out.2.2.trans hw10.2 (G := []) (H := []) (by simp) (by simp)
                  have T10 := same33 w10 w10.heap.size s e v10 (.slice Av l.length cv) l (hw10.lines hbv) ((HV.out.1.only ow10 hB (by simp)).up (by have := ow10.size; omega)) (Nat.le_refl _) (by omega))
               | (go_at_call 33
                  ((with_reducible refine T10.mono ?_))
                  rintro e11 w11 ⟨rfl, ho11⟩
                  have hx11 := hx10.only ho11 (by simp)
                  have hy11 := hy10.only ho11 (by simp)
                  have ow11 := ow10.trans ho11 (G := []) (H := []) (by simp) (by simp))))
        | fail
      all_goals (go_wp2; go_meet; exact ow11)
    · have hr1 : (r == 0) = false := by simp [hr0]
      have HX := hide hr0
      clear hr0
      go_wp2
      go_meet
      exact H3.out.1
  case rest =>
    have hsx := hcut.size
    have hbx := HV.out.2.only hcut hB (by simp)
    have T := bget_any _ B A c x (by omega) hnc (by omega) hbx
    have HX := hide (And.intro hcut hbx)
    clear hcut hbx
    go_wp2_with fail
    ((with_reducible refine T.mono ?_))
    rintro en wy (⟨h0, rfl, hoy⟩ | ⟨h0, v4, rfl, hly⟩)
    · have HY := hide (HX.out.1.trans hoy (G := []) (H := []) (by simp) (by simp))
      have hc0 : (getC x == 0) = false := by simp [h0]
      have hc1 : (getC x != 0) = true := by simp [h0]
      clear h0 hoy T
      generalize getC x = cx at *
      go_wp2
      go_ret
      exact ⟨rfl, HY.out.alloc _⟩
    · have hbz : ∀ z ∈ x, 0 ≤ z ∧ z < 256 := by
        obtain ⟨_, _, _, hz, _⟩ := HX.out.2
        exact hz
      obtain ⟨hbk, hpx⟩ := put_get hbz h0
      obtain ⟨A4, c4, rfl⟩ := ownsRow_val hly.1
      have hok := (bchk_ok hbk).2.2
      have hLy : LinesAt (wy.alloc (Obj.cells #[.int .i64 (getS x), .int .i64 (getE x), .slice A4 (linesOf x).length c4] 65)) wy.heap.size (.slice A4 (linesOf x).length c4) (linesOf x) :=
        (hly.lines (fun y hy => by have := okLine_in (hok y hy); omega)).only ((Only.refl [] wy).alloc _) (Nat.le_refl _) (by simp)
      have T2 := bput_ok _ _ (getS x) (getE x) _ (linesOf x) hLy (by simp) hbk
      have HY := hide (And.intro (HX.out.1.trans hly.2 (G := []) (H := []) (by simp) (by simp)) (And.intro hpx hbk))
      have hly2 := hly.2
      clear hly hok hLy T hpx h0
      go_wp2_with fail
      ((with_reducible refine T2.mono ?_))
      rintro en2 w2' hp2
      obtain ⟨A5, c5, rfl, hob5, hcap5, hby5⟩ := hp2.open hbk
      rw [HY.out.2.1]
      have hob6 := hob5.bytes hby5
      rw [HY.out.2.1] at hob6 hob5
      have o5 : Only [] w w2' := (HY.out.1.alloc (Obj.cells #[.int .i64 (getS x), .int .i64 (getE x), .slice A4 (linesOf x).length c4] 65)).trans hob5.2 (by simp) (by simp)
      have hbx5 : Bytes w2' w2'.heap.size (.slice A x.length c) x := by
        have h1 := HV.out.2.only o5 hB (by simp)
        obtain ⟨A', c', hv, hz, ha⟩ := h1
        refine ⟨A', c', hv, hz, fun hp => ?_⟩
        obtain ⟨b, o, hA, hb, hc⟩ := ha hp
        exact ⟨b, o, hA, by have := o5.size; omega, hc⟩
      have T3 := bytes_same w2' w2'.heap.size _ _ x hob6 hbx5 (Nat.le_refl _) (by omega)
      have H9 := hide o5
      clear hp2 hob5 hcap5 hby5 hob6 hbx5 o5 T2 hbk hbz
      go_wp2_with fail
      ((with_reducible refine T3.mono ?_))
      rintro en3 w3' ⟨rfl, ho3⟩
      have H10 := hide (H9.out.trans ho3 (G := []) (H := []) (by simp) (by simp))
      clear ho3 T3
      go_wp2
      go_ret
      exact ⟨rfl, H10.out⟩
end Go.Proofs.Ytkempjcdapfopaa
