/- A map from whole numbers to blocks, by what it answers to each key. Conditions: none beyond those of each lemma. -/
import Derived.Test.YtkempjcdapfopaaBk
namespace Go.Proofs.Ytkempjcdapfopaa
open Go.RowKit

def ent (x : Int × Bk) : Value × Value := (.int .i64 x.1, .agg x.2.cells)
def alook (l : List (Int × Bk)) (k : Int) : Option Bk := (l.find? (fun x => x.1 == k)).map (·.2)

theorem findNow_none : ∀ (es : List MapEntry) (l : List (Int × Bk)) (k : Int) (i : Nat), es.map (fun e => (e.key, e.val)) = l.map ent → alook l k = none →
    Instr.findNow (.int .i64) (.int .i64 k) es i = some none
  | [], l, k, i, h, hn => rfl
  | e :: es, [], k, i, h, hn => by simp at h
  | e :: es, x :: l, k, i, h, hn => by
    simp only [List.map_cons, List.cons.injEq] at h
    obtain ⟨h1, h2⟩ := h
    have hk : e.key = .int .i64 x.1 := by have := congrArg Prod.fst h1; simpa [ent] using this
    have hx : (x.1 == k) = false := by
      cases hb : (x.1 == k) with
      | false => rfl
      | true => simp [alook, hb] at hn
    have hn' : alook l k = none := by simpa [alook, List.find?_cons, hx] using hn
    have hx' : (k == x.1) = false := by rw [← hx]; exact Bool.eq_iff_iff.2 ⟨fun h => by simp at h ⊢; exact h.symm, fun h => by simp at h ⊢; exact h.symm⟩
    simp only [Instr.findNow, hk, Instr.sameNow, if_true, hx']
    exact findNow_none es l k (i + 1) h2 hn'

theorem findNow_some : ∀ (es : List MapEntry) (l : List (Int × Bk)) (k : Int) (i : Nat) (b : Bk), es.map (fun e => (e.key, e.val)) = l.map ent → alook l k = some b →
    ∃ j, j < l.length ∧ Instr.findNow (.int .i64) (.int .i64 k) es i = some (some (i + j, .agg b.cells)) ∧ (es[j]?).map (·.key) = some (.int .i64 k) ∧
      ∀ c n, alook (l.set j (k, c)) n = if n = k then some c else alook l n
  | [], [], k, i, b, h, hn => by simp [alook] at hn
  | [], x :: l, k, i, b, h, hn => by simp at h
  | e :: es, [], k, i, b, h, hn => by simp at h
  | e :: es, x :: l, k, i, b, h, hn => by
    simp only [List.map_cons, List.cons.injEq] at h
    obtain ⟨h1, h2⟩ := h
    have hk : e.key = .int .i64 x.1 := by have := congrArg Prod.fst h1; simpa [ent] using this
    have hv : e.val = .agg x.2.cells := by have := congrArg Prod.snd h1; simpa [ent] using this
    by_cases hx : x.1 = k
    · subst hx
      have hb : x.2 = b := by simpa [alook] using hn
      refine ⟨0, by simp, ?_, by simp [hk], ?_⟩
      · simp [Instr.findNow, hk, Instr.sameNow, hv, hb]
      · intro c n
        by_cases hn' : n = x.1
        · subst hn'; simp [alook]
        · have : (x.1 == n) = false := by simp; exact fun h => hn' h.symm
          simp [alook, List.find?_cons, this, hn']
    · have hxb : (x.1 == k) = false := by simp [hx]
      have hxb' : (k == x.1) = false := by simp; exact fun h => hx h.symm
      have hn' : alook l k = some b := by simpa [alook, List.find?_cons, hxb] using hn
      obtain ⟨j, hj, hf, hkey, hl⟩ := findNow_some es l k (i + 1) b h2 hn'
      refine ⟨j + 1, by simp [hj], ?_, by simpa using hkey, ?_⟩
      · simp only [Instr.findNow, hk, Instr.sameNow, if_true, hxb']
        rw [hf]; congr 3; omega
      · intro c n
        have := hl c n
        by_cases hxn : x.1 = n
        · subst hxn
          have hne : x.1 ≠ k := hx
          simp [alook, hne]
        · have hb : (x.1 == n) = false := by simp [hxn]
          simpa [alook, List.find?_cons, hb] using this

/-- the map block mb answers f -/
def MapAt (w : World) (mb : Nat) (f : Int → Option Bk) : Prop :=
  ∃ es clock l, w.heap[mb]? = some (.map es clock) ∧ es.toList.map (fun e => (e.key, e.val)) = l.map ent ∧ ∀ k, alook l k = f k

theorem MapAt.new (w : World) : MapAt (w.alloc (.map #[] 0)) w.heap.size (fun _ => none) := ⟨#[], 0, [], heap_alloc_new w _, by simp, fun _ => rfl⟩
theorem MapAt.lt {w : World} {mb : Nat} {f : Int → Option Bk} (h : MapAt w mb f) : mb < w.heap.size := by
  obtain ⟨es, cl, l, hb, _⟩ := h
  rcases Nat.lt_or_ge mb w.heap.size with h | h
  · exact h
  · rw [Array.getElem?_eq_none h] at hb; cases hb
theorem MapAt.same {w w' : World} {mb : Nat} {f : Int → Option Bk} (h : MapAt w mb f) (he : w'.heap[mb]? = w.heap[mb]?) : MapAt w' mb f := by
  obtain ⟨es, cl, l, hb, r⟩ := h
  exact ⟨es, cl, l, he.trans hb, r⟩
theorem MapAt.only {w w' : World} {mb : Nat} {f : Int → Option Bk} {F : List Nat} (h : MapAt w mb f) (ho : Only F w w') (hm : mb ∉ F) : MapAt w' mb f := h.same (ho.block mb h.lt hm)
theorem MapAt.ne {w : World} {mb g t : Nat} {cs : Array Value} {f : Int → Option Bk} (h : MapAt w mb f) (hb : Blk w g t cs) : mb ≠ g := by
  rintro rfl
  obtain ⟨es, cl, l, h, _⟩ := h
  unfold Blk at hb
  rw [h] at hb; cases hb

theorem checkKey_int (n : Nat) (em : Bool) (k : Int) (w : World) : (Instr.checkKey em (n + 1) 3 (.int .i64 k)).run Try.prog w = .ok () w := by
  simp [Instr.checkKey, run_underlying Try.underlying3]

/-- what a look-up gives -/
def lookV : Option Bk → Value
  | some b => .tuple #[.agg b.cells, .bool true]
  | none => .tuple #[.agg Bk.zero.cells, .bool false]
theorem run_lookup97 {w : World} {mb : Nat} {f : Int → Option Bk} (h : MapAt w mb f) (k : Int) :
    (Instr.lookup 97 (.map (some mb)) (.int .i64 k) true).run Try.prog w = .ok (lookV (f k)) w := by
  obtain ⟨es, cl, l, hb, hes, hl⟩ := h
  have hg : (getObj mb).run Try.prog w = .ok (.map es cl) w := by
    simp [getObj, Sem.run, hb]
  cases hf : f k with
  | none =>
    have hn := findNow_none es.toList l k 0 hes (by rw [hl, hf])
    simp [Instr.lookup, run_underlying Try.underlying97, run_underlying Try.underlying3, hg, checkKey_int 9999, Instr.findKey, hn, zero45, lookV]
    rfl
  | some b =>
    obtain ⟨j, _, hn, _⟩ := findNow_some es.toList l k 0 b hes (by rw [hl, hf])
    simp [Instr.lookup, run_underlying Try.underlying97, run_underlying Try.underlying3, hg, checkKey_int 9999, Instr.findKey, hn, lookV]

def mput (w : World) (mb : Nat) (o : Obj) : World := { w with heap := w.heap.setIfInBounds mb o }
theorem run_mapUpdate97 {w : World} {mb : Nat} {f : Int → Option Bk} (h : MapAt w mb f) (k : Int) (b : Bk) :
    ∃ w', (Instr.mapUpdate 97 (.map (some mb)) (.int .i64 k) (.agg b.cells)).run Try.prog w = .ok () w' ∧ MapAt w' mb (fun n => if n = k then some b else f n) ∧ Only [mb] w w' := by
  have hlt := h.lt
  obtain ⟨es, cl, l, hb, hes, hl⟩ := h
  have hg : (getObj mb).run Try.prog w = .ok (.map es cl) w := by
    simp [getObj, Sem.run, hb]
  have hs : ∀ o, (setObj mb o).run Try.prog w = .ok () (mput w mb o) := fun o => by
    simp [setObj, Sem.run, hb, mput]
  have hO : ∀ o, Only [mb] w (mput w mb o) := fun o => ⟨rfl, rfl, rfl, by simp [mput], fun i hi hn => by
    have : mb ≠ i := fun e => hn (by simp [e])
    simp [mput, Array.getElem?_setIfInBounds, this]⟩
  have hat : ∀ o, (mput w mb o).heap[mb]? = some o := fun o => by simp [mput, hlt]
  cases hf : f k with
  | none =>
    have hn := findNow_none es.toList l k 0 hes (by rw [hl, hf])
    refine ⟨_, by
      simp [Instr.mapUpdate, run_underlying Try.underlying97, run_underlying Try.underlying3, hg, checkKey_int 9999, Instr.findKey, hn, hs]; rfl, ⟨_, _, l ++ [(k, b)], hat _, ?_, ?_⟩, hO _⟩
    · simp [hes, ent]
    · intro n
      have := hl n
      by_cases hnk : n = k
      · subst hnk
        have h0 : alook l n = none := by rw [hl, hf]
        simp only [alook, Option.map_eq_none_iff] at h0
        simp [alook, List.find?_append, h0]
      · have hkn : (k == n) = false := by simp; exact fun h => hnk h.symm
        show _ = if n = k then some b else f n
        rw [if_neg hnk, ← this]
        unfold alook
        rw [List.find?_append]
        cases h1 : l.find? (fun x => x.1 == n) with
        | none => simp [List.find?_cons, hkn]
        | some y => simp
  | some b0 =>
    obtain ⟨j, hj, hn, hkey, hset⟩ := findNow_some es.toList l k 0 b0 hes (by rw [hl, hf])
    have hkey' : Option.map (fun x => x.key) es[j]? = some (.int .i64 k) := by simpa using hkey
    have hst : (Instr.keyThatStays (.int .i64 k) (.int .i64 k)).run Try.prog w = .ok (.int .i64 k) w := by
      simp [Instr.keyThatStays, Instr.sameBits]
    refine ⟨_, by
      simp [Instr.mapUpdate, run_underlying Try.underlying97, run_underlying Try.underlying3, hg, checkKey_int 9999, Instr.findKey, hn, hs, hkey', hst]; rfl, ⟨_, _, l.set j (k, b), hat _, ?_, ?_⟩, hO _⟩
    · simp only [Array.toList_modify]
      apply List.ext_getElem?
      intro i
      have hi := congrArg (fun l => l[i]?) hes
      simp only [List.getElem?_map] at hi
      simp only [List.getElem?_map, List.getElem?_modify, List.getElem?_set]
      by_cases hij : j = i
      · subst hij
        have : j < es.toList.length := by
          have := congrArg List.length hes
          simp at this
          simp [this, hj]
        simp [hj, ent, List.getElem?_eq_getElem this]
      · simp [hij]
        simpa using hi
    · intro n
      rw [hset, hl]

theorem run_clear97 {w : World} {mb : Nat} {f : Int → Option Bk} (h : MapAt w mb f) :
    ∃ w', (∀ ty, (Builtin.clear_ #[97] ty #[.map (some mb)]).run Try.prog w = .ok (.tuple #[]) w') ∧ MapAt w' mb (fun _ => none) ∧ Only [mb] w w' := by
  have hlt := h.lt
  obtain ⟨es, cl, l, hb, hes, hl⟩ := h
  have hg : (getObj mb).run Try.prog w = .ok (.map es cl) w := by
    simp [getObj, Sem.run, hb]
  have hs : ∀ o, (setObj mb o).run Try.prog w = .ok () (mput w mb o) := fun o => by
    simp [setObj, Sem.run, hb, mput]
  have hO : ∀ o, Only [mb] w (mput w mb o) := fun o => ⟨rfl, rfl, rfl, by simp [mput], fun i hi hn => by
    have : mb ≠ i := fun e => hn (by simp [e])
    simp [mput, Array.getElem?_setIfInBounds, this]⟩
  have hat : ∀ o, (mput w mb o).heap[mb]? = some o := fun o => by simp [mput, hlt]
  exact ⟨_, fun _ => by simp [Builtin.clear_, run_underlying Try.underlying97, hg, hs], ⟨#[], cl, [], hat _, by simp, fun _ => rfl⟩, hO _⟩
end Go.Proofs.Ytkempjcdapfopaa
