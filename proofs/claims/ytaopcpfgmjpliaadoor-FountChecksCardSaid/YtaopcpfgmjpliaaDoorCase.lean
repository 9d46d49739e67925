/-
  Walks: sums of cases, what is left and what is lacking, metal.
-/
import Derived.Test.YtaopcpfgmjpliaaDoorComb
namespace Go.Proofs.YtaopcpfgmjpliaaDoor
open Go.RowKit

theorem chk_zero {f : FT} (h : (chk f).2 = 0) : (1 ≤ f.body ∧ f.body ≤ 144) ∧ 1 ≤ f.sorts.length ∧ f.sorts.length ≤ 120 ∧ cleanTo f.sorts f.sorts.length := by
  unfold chk at h
  by_cases h1 : nameB f.name = false
  · rw [if_pos h1] at h; exact absurd h (by decide)
  rw [if_neg h1] at h
  by_cases h2 : ¬ (1 ≤ f.body ∧ f.body ≤ 144)
  · rw [if_pos h2] at h; exact absurd h (by decide)
  rw [if_neg h2] at h
  by_cases h3 : f.sorts.length = 0
  · rw [if_pos h3] at h; exact absurd h (by decide)
  rw [if_neg h3] at h
  by_cases h4 : 120 < f.sorts.length
  · rw [if_pos h4] at h; exact absurd h (by decide)
  rw [if_neg h4] at h
  refine ⟨by simpa using h2, by omega, by omega, ?_⟩
  have key : ∀ n, (match firstBad f.sorts n with | some k => ((k : Int), sortErr f.sorts k (f.sorts.getD k TS.zero)) | none => (0, 0)).2 = 0 → cleanTo f.sorts n := by
    intro n
    induction n with
    | zero => intro _ k hk; omega
    | succ n ih =>
      intro hh
      rw [firstBad] at hh
      cases hb : firstBad f.sorts n with
      | some k => rw [hb] at hh ih; exact absurd hh (by
          simp only at hh ih ⊢
          intro hz
          have hc := ih hz
          rw [firstBad_none hc] at hb; cases hb)
      | none =>
        rw [hb] at hh ih
        have hc := ih rfl
        simp only at hh
        by_cases hs : sortErr f.sorts n (f.sorts.getD n TS.zero) = 0
        · exact cleanTo_succ hc hs
        · rw [if_neg hs] at hh; exact absurd hh hs
  exact key _ h
theorem sort_zero {ss : List TS} {n : Nat} {x : TS} (h : sortErr ss n x = 0) : nameB x.name = true ∧ hasName ss n x.name = false ∧ (1 ≤ x.kind ∧ x.kind ≤ 3) ∧ (1 ≤ x.width ∧ x.width ≤ 100000) ∧ textErr ss n x.kind x.text = 0 := by
  unfold sortErr at h
  by_cases h1 : nameB x.name = false
  · rw [if_pos h1] at h; exact absurd h (by decide)
  rw [if_neg h1] at h
  by_cases h2 : hasName ss n x.name = true
  · rw [if_pos h2] at h; exact absurd h (by decide)
  rw [if_neg h2] at h
  by_cases h3 : ¬ (1 ≤ x.kind ∧ x.kind ≤ 3)
  · rw [if_pos h3] at h; exact absurd h (by decide)
  rw [if_neg h3] at h
  by_cases h4 : ¬ (1 ≤ x.width ∧ x.width ≤ 100000)
  · rw [if_pos h4] at h; exact absurd h (by decide)
  rw [if_neg h4] at h
  exact ⟨by simpa using h1, by simpa using h2, by simpa using h3, by simpa using h4, h⟩
theorem badCount_false {z : Int} : badCount z = false ↔ 0 ≤ z ∧ z ≤ 1000000 := by
  unfold badCount; rw [Bool.not_eq_false', Bool.and_eq_true, decide_eq_true_eq, decide_eq_true_eq]
theorem counts_zero {f : FT} {zs : List Int} (h : countsErr f zs = 0) : zs.length = f.sorts.length ∧ ∀ k, k < zs.length → 0 ≤ zs.getD k 0 ∧ zs.getD k 0 ≤ 1000000 := by
  unfold countsErr at h
  by_cases h1 : zs.length ≠ f.sorts.length
  · rw [if_pos h1] at h; exact absurd h (by decide)
  rw [if_neg h1] at h
  by_cases h2 : (idxOf badCount zs zs.length).isSome = true
  · rw [if_pos h2] at h; exact absurd h (by decide)
  refine ⟨by omega, fun k hk => badCount_false.1 ?_⟩
  rw [Bool.eq_false_iff]
  intro hb
  exact h2 ((idxOf_isSome _ _ _).2 ⟨k, hk, hb⟩)
theorem counts_of {f : FT} {zs : List Int} (hl : zs.length = f.sorts.length) (h : ∀ k, k < zs.length → 0 ≤ zs.getD k 0 ∧ zs.getD k 0 ≤ 1000000) : countsErr f zs = 0 := by
  unfold countsErr
  rw [if_neg (by omega), if_neg]
  intro hs
  obtain ⟨k, hk, hb⟩ := (idxOf_isSome _ _ _).1 hs
  rw [badCount_false.2 (h k hk)] at hb; cases hb
theorem case_zero {f : FT} {zs : List Int} (h : caseErr f zs = 0) : (chk f).2 = 0 ∧ countsErr f zs = 0 := by
  unfold caseErr at h
  by_cases h1 : (chk f).2 ≠ 0
  · rw [if_pos h1] at h; exact absurd h h1
  · rw [if_neg h1] at h; exact ⟨by simpa using h1, h⟩
theorem case_of {f : FT} {zs : List Int} (h : (chk f).2 = 0) (h' : countsErr f zs = 0) : caseErr f zs = 0 := by unfold caseErr; rw [if_neg (by rw [h]; simp), h']
theorem case2_zero {f : FT} {xs ys : List Int} (h : caseErr2 f xs ys = 0) : caseErr f xs = 0 ∧ countsErr f ys = 0 := by
  unfold caseErr2 at h
  by_cases h1 : caseErr f xs ≠ 0
  · rw [if_pos h1] at h; exact absurd h h1
  · rw [if_neg h1] at h; exact ⟨by simpa using h1, h⟩
theorem case2_of {f : FT} {xs ys : List Int} (h : caseErr f xs = 0) (h' : countsErr f ys = 0) : caseErr2 f xs ys = 0 := by unfold caseErr2; rw [if_neg (by rw [h]; simp), h']

/-- Two lists, number by number. -/
def zipK (o : Int → Int → Int) (xs ys : List Int) : List Int := (List.range xs.length).map fun k => o (xs.getD k 0) (ys.getD k 0)
theorem zipK_len (o : Int → Int → Int) (xs ys : List Int) : (zipK o xs ys).length = xs.length := by simp [zipK]
theorem zipK_at (o : Int → Int → Int) (xs ys : List Int) (k : Nat) (h : k < xs.length) : (zipK o xs ys).getD k 0 = o (xs.getD k 0) (ys.getD k 0) := by
  unfold zipK
  rw [List.getD_eq_getElem?_getD, List.getElem?_map, List.getElem?_range h]; rfl
def lacksI (x y : Int) : Int := max 0 (y - x)
def mostI (x y : Int) : Int := max x y
/-- A slice of the call's own, read and owned. -/
structure SL (w : World) (base : Nat) (A : Option Addr) (c : Nat) (zs : List Int) : Prop where
  own : Own w base (.slice A zs.length c) zs
  ri : RI w A zs.length zs
  cap : zs.length ≤ c
theorem SL.nil (w : World) (base : Nat) : SL w base none 0 [] := ⟨Own.nil _ _, RI.nil, Nat.le_refl _⟩
theorem SL.ext {w w' : World} {base c : Nat} {A : Option Addr} {zs : List Int} (h : SL w base A c zs) (hx : Ext w w') : SL w' base A c zs := ⟨h.own.ext hx, h.ri.ext hx, h.cap⟩
theorem SL.mono {w : World} {base base' c : Nat} {A : Option Addr} {zs : List Int} (h : SL w base A c zs) (hb : base' ≤ base) : SL w base' A c zs := by
  refine ⟨⟨h.own.1, ?_⟩, h.ri, h.cap⟩
  rcases h.own.2 with h' | ⟨g, cap, cur, hv, hg, r⟩
  · exact .inl h'
  · exact .inr ⟨g, cap, cur, hv, by omega, r⟩
/-- The call hands back a new slice; with an error; with a number and an error. -/
def RetS (zs : List Int) (w : World) (e : Ending) (w' : World) : Prop := ∃ A c, e = .returned (.slice A zs.length c) ∧ SL w' w.heap.size A c zs ∧ Ext w w'
def RetSE (zs : List Int) (z : Int) (w : World) (e : Ending) (w' : World) : Prop := ∃ A c, e = .returned (.tuple #[.slice A zs.length c, .int .i64 z]) ∧ SL w' w.heap.size A c zs ∧ Ext w w'
def RetSNE (zs : List Int) (n z : Int) (w : World) (e : Ending) (w' : World) : Prop := ∃ A c, e = .returned (.tuple #[.slice A zs.length c, .int .i64 n, .int .i64 z]) ∧ SL w' w.heap.size A c zs ∧ Ext w w'
theorem RetI.s {zs : List Int} {w : World} (hz : zs.length ≤ 140737488351232) : ∀ (e : Ending) (w' : World), RetI zs w e w' → RetS zs w e w' := fun e w' ⟨v, he, ho, hx⟩ => by
  obtain ⟨A, c, rfl, hc, hr⟩ := ho.form hz
  exact ⟨A, c, he, ⟨ho, hr, hc⟩, hx⟩

def maxTo (zs : List Int) : Nat → Int
  | 0 => 0
  | n + 1 => if n = 0 then zs.getD 0 0 else max (maxTo zs n) (zs.getD n 0)
theorem maxTo_gt (zs : List Int) (M : Int) : ∀ n, 1 ≤ n → (M < maxTo zs n ↔ ∃ k, k < n ∧ M < zs.getD k 0)
  | 0, h => by omega
  | n + 1, _ => by
    unfold maxTo
    by_cases h0 : n = 0
    · subst h0
      rw [if_pos rfl]
      refine ⟨fun h => ⟨0, by omega, h⟩, fun ⟨k, hk, h⟩ => ?_⟩
      obtain rfl : k = 0 := by omega
      exact h
    · rw [if_neg h0]
      have ih := maxTo_gt zs M n (by omega)
      constructor
      · intro h
        by_cases h1 : M < maxTo zs n
        · obtain ⟨k, hk, hm⟩ := ih.1 h1; exact ⟨k, by omega, hm⟩
        · exact ⟨n, by omega, by omega⟩
      · rintro ⟨k, hk, hm⟩
        by_cases hkn : k < n
        · have := ih.2 ⟨k, hkn, hm⟩; omega
        · obtain rfl : k = n := by omega
          omega
/-- What Joined returns. -/
def joinR (f : FT) (xs ys : List Int) : List Int × Int :=
  if caseErr2 f xs ys ≠ 0 then ([], caseErr2 f xs ys) else if 1000000 < maxTo (zipK (· + ·) xs ys) (zipK (· + ·) xs ys).length then ([], 8) else (zipK (· + ·) xs ys, 0)
def neg (z : Int) : Bool := decide (z < 0)
/-- What Taken, and what Lacking, returns. -/
def takeR (f : FT) (xs ys : List Int) : List Int × Int × Int :=
  if caseErr2 f xs ys ≠ 0 then ([], 0, caseErr2 f xs ys) else
  match idxOf neg (zipK (· - ·) xs ys) (zipK (· - ·) xs ys).length with | some k => ([], (k : Int), 20) | none => (zipK (· - ·) xs ys, 0, 0)
def lackR (f : FT) (xs ys : List Int) : List Int × Int := if caseErr2 f xs ys ≠ 0 then ([], caseErr2 f xs ys) else (zipK lacksI xs ys, 0)

end Go.Proofs.YtaopcpfgmjpliaaDoor
