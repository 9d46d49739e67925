/-
  Walks: sums of cases, what is left and what is lacking, metal.
-/
import Derived.Test.YtiailnblfonhjaaDoorComb
namespace Go.Proofs.YtiailnblfonhjaaDoor
open Go.RowKit

theorem chk_zero {f : FT} (h : (chk f).2 = 0) : (1 ≤ f.body ∧ f.body ≤ 144) ∧ 1 ≤ f.sorts.length ∧ f.sorts.length ≤ 120 ∧ cleanTo f.sorts f.sorts.length := by
  unfold chk at h
  by_cases h1 : nameB f.name = false
  · rw [if_pos h1] at h; exact absurd h (by decide)
  rw [if_neg h1] at h
  by_cases h2 : ¬ (1 ≤ f.body ∧ f.body ≤ 144)
  · rw [if_pos h2] at h; exact absurd h (by decide)
  rw [if_neg h2] at h
  by_cases h3 : f.sorts.length = 0
  · rw [if_pos h3] at h; exact absurd h (by decide)
  rw [if_neg h3] at h
  by_cases h4 : 120 < f.sorts.length
  · rw [if_pos h4] at h; exact absurd h (by decide)
  rw [if_neg h4] at h
  refine ⟨by simpa using h2, by omega, by omega, ?_⟩
  have key : ∀ n, (match firstBad f.sorts n with | some k => ((k : Int), sortErr f.sorts k (f.sorts.getD k TS.zero)) | none => (0, 0)).2 = 0 → cleanTo f.sorts n := by
    intro n
    induction n with
    | zero => intro _ k hk; omega
    | succ n ih =>
      intro hh
      rw [firstBad] at hh
      cases hb : firstBad f.sorts n with
      | some k => rw [hb] at hh ih; exact absurd hh (by
          simp only at hh ih ⊢
          intro hz
          have hc := ih hz
          rw [firstBad_none hc] at hb; cases hb)
      | none =>
        rw [hb] at hh ih
        have hc := ih rfl
        simp only at hh
        by_cases hs : sortErr f.sorts n (f.sorts.getD n TS.zero) = 0
        · exact cleanTo_succ hc hs
        · rw [if_neg hs] at hh; exact absurd hh hs
  exact key _ h
theorem sort_zero {ss : List TS} {n : Nat} {x : TS} (h : sortErr ss n x = 0) : nameB x.name = true ∧ hasName ss n x.name = false ∧ (1 ≤ x.kind ∧ x.kind ≤ 3) ∧ (1 ≤ x.width ∧ x.width ≤ 100000) ∧ textErr ss n x.kind x.text = 0 := by
  unfold sortErr at h
  by_cases h1 : nameB x.name = false
  · rw [if_pos h1] at h; exact absurd h (by decide)
  rw [if_neg h1] at h
  by_cases h2 : hasName ss n x.name = true
  · rw [if_pos h2] at h; exact absurd h (by decide)
  rw [if_neg h2] at h
  by_cases h3 : ¬ (1 ≤ x.kind ∧ x.kind ≤ 3)
  · rw [if_pos h3] at h; exact absurd h (by decide)
  rw [if_neg h3] at h
  by_cases h4 : ¬ (1 ≤ x.width ∧ x.width ≤ 100000)
  · rw [if_pos h4] at h; exact absurd h (by decide)
  rw [if_neg h4] at h
  exact ⟨by simpa using h1, by simpa using h2, by simpa using h3, by simpa using h4, h⟩
theorem badCount_false {z : Int} : badCount z = false ↔ 0 ≤ z ∧ z ≤ 1000000 := by
  unfold badCount; rw [Bool.not_eq_false', Bool.and_eq_true, decide_eq_true_eq, decide_eq_true_eq]
theorem counts_zero {f : FT} {zs : List Int} (h : countsErr f zs = 0) : zs.length = f.sorts.length ∧ ∀ k, k < zs.length → 0 ≤ zs.getD k 0 ∧ zs.getD k 0 ≤ 1000000 := by
  unfold countsErr at h
  by_cases h1 : zs.length ≠ f.sorts.length
  · rw [if_pos h1] at h; exact absurd h (by decide)
  rw [if_neg h1] at h
  by_cases h2 : (idxOf badCount zs zs.length).isSome = true
  · rw [if_pos h2] at h; exact absurd h (by decide)
  refine ⟨by omega, fun k hk => badCount_false.1 ?_⟩
  rw [Bool.eq_false_iff]
  intro hb
  exact h2 ((idxOf_isSome _ _ _).2 ⟨k, hk, hb⟩)
theorem counts_of {f : FT} {zs : List Int} (hl : zs.length = f.sorts.length) (h : ∀ k, k < zs.length → 0 ≤ zs.getD k 0 ∧ zs.getD k 0 ≤ 1000000) : countsErr f zs = 0 := by
  unfold countsErr
  rw [if_neg (by omega), if_neg]
  intro hs
  obtain ⟨k, hk, hb⟩ := (idxOf_isSome _ _ _).1 hs
  rw [badCount_false.2 (h k hk)] at hb; cases hb
theorem case_zero {f : FT} {zs : List Int} (h : caseErr f zs = 0) : (chk f).2 = 0 ∧ countsErr f zs = 0 := by
  unfold caseErr at h
  by_cases h1 : (chk f).2 ≠ 0
  · rw [if_pos h1] at h; exact absurd h h1
  · rw [if_neg h1] at h; exact ⟨by simpa using h1, h⟩
theorem case_of {f : FT} {zs : List Int} (h : (chk f).2 = 0) (h' : countsErr f zs = 0) : caseErr f zs = 0 := by unfold caseErr; rw [if_neg (by rw [h]; simp), h']
theorem case2_zero {f : FT} {xs ys : List Int} (h : caseErr2 f xs ys = 0) : caseErr f xs = 0 ∧ countsErr f ys = 0 := by
  unfold caseErr2 at h
  by_cases h1 : caseErr f xs ≠ 0
  · rw [if_pos h1] at h; exact absurd h h1
  · rw [if_neg h1] at h; exact ⟨by simpa using h1, h⟩
theorem case2_of {f : FT} {xs ys : List Int} (h : caseErr f xs = 0) (h' : countsErr f ys = 0) : caseErr2 f xs ys = 0 := by unfold caseErr2; rw [if_neg (by rw [h]; simp), h']

/-- Two lists, number by number. -/
def zipK (o : Int → Int → Int) (xs ys : List Int) : List Int := (List.range xs.length).map fun k => o (xs.getD k 0) (ys.getD k 0)
theorem zipK_len (o : Int → Int → Int) (xs ys : List Int) : (zipK o xs ys).length = xs.length := by simp [zipK]
theorem zipK_at (o : Int → Int → Int) (xs ys : List Int) (k : Nat) (h : k < xs.length) : (zipK o xs ys).getD k 0 = o (xs.getD k 0) (ys.getD k 0) := by
  unfold zipK
  rw [List.getD_eq_getElem?_getD, List.getElem?_map, List.getElem?_range h]; rfl
def lacksI (x y : Int) : Int := max 0 (y - x)
def mostI (x y : Int) : Int := max x y
theorem lacks_any (x y : Int) (w : World) (hx : 0 ≤ x ∧ x ≤ 1000000000) (hy : 0 ≤ y ∧ y ≤ 1000000000) : Calls Tryd.prog 84 #[.int .i64 x, .int .i64 y] w (Same (.int .i64 (lacksI x y)) w) := by
  obtain ⟨h1, h2⟩ := hx
  obtain ⟨h3, h4⟩ := hy
  have HL : Hid (lacksI x y = max 0 (y - x)) := Lib.hid rfl
  generalize lacksI x y = l at *
  go_enter Tryd.func84, Tryd.ntmps84
  go_wp2
  go_ret
  exact ⟨by rw [HL.out]; rfl, rfl⟩
/-- A slice of the call's own, read and owned. -/
structure SL (w : World) (base : Nat) (A : Option Addr) (c : Nat) (zs : List Int) : Prop where
  own : Own w base (.slice A zs.length c) zs
  ri : RI w A zs.length zs
  cap : zs.length ≤ c
theorem SL.nil (w : World) (base : Nat) : SL w base none 0 [] := ⟨Own.nil _ _, RI.nil, Nat.le_refl _⟩
theorem SL.ext {w w' : World} {base c : Nat} {A : Option Addr} {zs : List Int} (h : SL w base A c zs) (hx : Ext w w') : SL w' base A c zs := ⟨h.own.ext hx, h.ri.ext hx, h.cap⟩
theorem SL.mono {w : World} {base base' c : Nat} {A : Option Addr} {zs : List Int} (h : SL w base A c zs) (hb : base' ≤ base) : SL w base' A c zs := by
  refine ⟨⟨h.own.1, ?_⟩, h.ri, h.cap⟩
  rcases h.own.2 with h' | ⟨g, cap, cur, hv, hg, r⟩
  · exact .inl h'
  · exact .inr ⟨g, cap, cur, hv, by omega, r⟩
/-- The call hands back a new slice; with an error; with a number and an error. -/
def RetS (zs : List Int) (w : World) (e : Ending) (w' : World) : Prop := ∃ A c, e = .returned (.slice A zs.length c) ∧ SL w' w.heap.size A c zs ∧ Ext w w'
def RetSE (zs : List Int) (z : Int) (w : World) (e : Ending) (w' : World) : Prop := ∃ A c, e = .returned (.tuple #[.slice A zs.length c, .int .i64 z]) ∧ SL w' w.heap.size A c zs ∧ Ext w w'
def RetSNE (zs : List Int) (n z : Int) (w : World) (e : Ending) (w' : World) : Prop := ∃ A c, e = .returned (.tuple #[.slice A zs.length c, .int .i64 n, .int .i64 z]) ∧ SL w' w.heap.size A c zs ∧ Ext w w'
theorem RetI.s {zs : List Int} {w : World} (hz : zs.length ≤ 140737488351232) : ∀ (e : Ending) (w' : World), RetI zs w e w' → RetS zs w e w' := fun e w' ⟨v, he, ho, hx⟩ => by
  obtain ⟨A, c, rfl, hc, hr⟩ := ho.form hz
  exact ⟨A, c, he, ⟨ho, hr, hc⟩, hx⟩

def maxTo (zs : List Int) : Nat → Int
  | 0 => 0
  | n + 1 => if n = 0 then zs.getD 0 0 else max (maxTo zs n) (zs.getD n 0)
theorem maxTo_gt (zs : List Int) (M : Int) : ∀ n, 1 ≤ n → (M < maxTo zs n ↔ ∃ k, k < n ∧ M < zs.getD k 0)
  | 0, h => by omega
  | n + 1, _ => by
    unfold maxTo
    by_cases h0 : n = 0
    · subst h0
      rw [if_pos rfl]
      refine ⟨fun h => ⟨0, by omega, h⟩, fun ⟨k, hk, h⟩ => ?_⟩
      obtain rfl : k = 0 := by omega
      exact h
    · rw [if_neg h0]
      have ih := maxTo_gt zs M n (by omega)
      constructor
      · intro h
        by_cases h1 : M < maxTo zs n
        · obtain ⟨k, hk, hm⟩ := ih.1 h1; exact ⟨k, by omega, hm⟩
        · exact ⟨n, by omega, by omega⟩
      · rintro ⟨k, hk, hm⟩
        by_cases hkn : k < n
        · have := ih.2 ⟨k, hkn, hm⟩; omega
        · obtain rfl : k = n := by omega
          omega
set_option maxHeartbeats 1000000 in
theorem max_any (A : Option Addr) (n c : Nat) (zs : List Int) (w : World) (h : RI w A n zs) (hn : 1 ≤ n) :
    Calls Tryd.prog 86 #[.slice A n c] w (Same (.int .i64 (maxTo zs n)) w) := by
  have hbig := h.big
  obtain ⟨b, off, rfl, hbw, hcell⟩ := h.2.2 (by omega)
  have c0 := hcell 0 (by omega)
  simp only [Nat.add_zero] at c0
  have h1 : ¬ (n : Int) < 1 := by omega
  have h0 : 0 < n := by omega
  have h0i : (0 : Int) < (n : Int) := by omega
  have HC := Lib.hid hcell; clear hcell h
  have HM : Hid (maxTo zs 1 = zs.getD 0 0) := Lib.hid rfl
  generalize hz0 : zs.getD 0 0 = z0 at *
  clear hz0
  go_enter Tryd.func86, Tryd.ntmps86
  go_wp2
  go_loop [3, 4] (fun m i => ∃ k : Nat, 1 ≤ k ∧ k ≤ n ∧ i = .int .i64 k ∧ m = .int .i64 (maxTo zs k)) (fun _ i => n - (intOf i).toNat)
  case atStart => exact ⟨1, by omega, by omega, rfl, by rw [HM.out]⟩
  case round =>
    obtain ⟨k, hk1, hk, rfl, rfl⟩ := hrel
    by_cases hlt : k < n
    · have c1 := HC.out k hlt
      have HT : Hid (maxTo zs (k + 1) = max (maxTo zs k) (zs.getD k 0)) := Lib.hid (by rw [maxTo, if_neg (by omega)])
      generalize zs.getD k 0 = y at *
      go_wp2
      go_round
      case rel => exact ⟨k + 1, by omega, by omega, by go_num, by rw [HT.out]⟩
      case measure => simp [intOf]; omega
    · obtain rfl : k = n := by omega
      go_wp2
      go_ret
      exact ⟨rfl, rfl⟩

/-- What Joined returns. -/
def joinR (f : FT) (xs ys : List Int) : List Int × Int :=
  if caseErr2 f xs ys ≠ 0 then ([], caseErr2 f xs ys) else if 1000000 < maxTo (zipK (· + ·) xs ys) (zipK (· + ·) xs ys).length then ([], 8) else (zipK (· + ·) xs ys, 0)
set_option maxHeartbeats 2000000 in
theorem joined_any (f : FT) (A : Option Addr) (c : Nat) (X : Option Addr) (cx : Nat) (Y : Option Addr) (cy : Nat) (xs ys : List Int) (w : World) (hf : FR w A c f) (hx : RI w X xs.length xs) (hy : RI w Y ys.length ys) :
    Calls Tryd.prog 46 #[f.val A c, .slice X xs.length cx, .slice Y ys.length cy] w (RetSE (joinR f xs ys).1 (joinR f xs ys).2 w) := by
  have cC := fun Z W h1 h2 => check_any f A c Z 2 2 [⟨X, cx, xs⟩, ⟨Y, cy, ys⟩] W h1 h2
  rw [checkErr_two] at cC
  simp only at cC
  have HF := Lib.hid hf; have HX := Lib.hid hx; have HY := Lib.hid hy; clear hf hx hy
  by_cases hz : caseErr2 f xs ys = 0
  · obtain ⟨h1, h2⟩ := case2_zero hz
    obtain ⟨h3, h4⟩ := case_zero h1
    obtain ⟨l1, b1⟩ := counts_zero h4
    obtain ⟨l2, b2⟩ := counts_zero h2
    obtain ⟨_, n1, n2, _⟩ := chk_zero h3
    have hn : 1 ≤ xs.length := by omega
    have hxy : xs.length ≤ ys.length := by omega
    have hx120 : xs.length ≤ 120 := by omega
    have cO := fun W hx hy => combined_any 85 (fun _ _ => by kernel_rfl) X Y xs.length cx cy ys.length xs ys (zipK (· + ·) xs ys) W hx hy (zipK_len _ _ _) hxy (by omega)
      (fun W k hk => by rw [zipK_at _ _ _ _ hk]; exact plus_any _ _ W (by have := b1 k hk; omega) (by have := b2 k (by omega); omega))
    have hzl : (zipK (· + ·) xs ys).length = xs.length := zipK_len _ _ _
    have HR : Hid (joinR f xs ys = if 1000000 < maxTo (zipK (· + ·) xs ys) (zipK (· + ·) xs ys).length then ([], 8) else (zipK (· + ·) xs ys, 0)) := Lib.hid (by unfold joinR; rw [if_neg (by rw [hz]; simp)])
    rw [hz] at cC
    have cM := fun A c W h => max_any A (zipK (· + ·) xs ys).length c (zipK (· + ·) xs ys) W h (by omega)
    generalize joinR f xs ys = r at *
    generalize zipK (· + ·) xs ys = zs at *
    have HZL := Lib.hid hzl; clear hzl
    clear b1 b2 h1 h2 h3 h4 hz l1 l2 n1 hn hxy
    obtain ⟨name, body, ss⟩ := f
    simp only [FT.val] at *
    have CC := Lib.hid cC; have CO := Lib.hid cO; clear cC cO
    by_cases hm : 1000000 < maxTo zs zs.length
    · have HM := Lib.hid hm
      generalize maxTo zs zs.length = mx at *
      have CM := Lib.hid cM; clear cM
      go_enter Tryd.func46, Tryd.ntmps46
      go_wp2_with (first | (go_at_call 61; refine Calls.mono (CC.out _ _ ?_ ?_) ?_; (exact HF.out.ext (by repeat (first | exact Ext.refl _ | assumption | refine Ext.alloc ?_ _ | refine Ext.drew ?_ | refine Ext.drewN ?_ _ | (refine Ext.setCell ?_ (by simp <;> omega) _) | refine Ext.trans ?_ (by assumption)))); (exact RL.two (Blk.new1 _ _ _ _) (HX.out.ext (by repeat (first | exact Ext.refl _ | assumption | refine Ext.alloc ?_ _ | refine Ext.drew ?_ | refine Ext.drewN ?_ _ | (refine Ext.setCell ?_ (by simp <;> omega) _) | refine Ext.trans ?_ (by assumption)))) (HY.out.ext (by repeat (first | exact Ext.refl _ | assumption | refine Ext.alloc ?_ _ | refine Ext.drew ?_ | refine Ext.drewN ?_ _ | (refine Ext.setCell ?_ (by simp <;> omega) _) | refine Ext.trans ?_ (by assumption))))); rintro e w1 ⟨rfl, hb⟩) | (go_at_call 78; refine Calls.mono (Calls.mono (CO.out _ ?_ ?_) (RetI.s (by rw [HZL.out]; omega))) ?_; (exact HX.out.ext (Ext.trans (by repeat (first | exact Ext.refl _ | assumption | refine Ext.alloc ?_ _ | refine Ext.drew ?_ | refine Ext.drewN ?_ _ | (refine Ext.setCell ?_ (by simp <;> omega) _) | refine Ext.trans ?_ (by assumption))) hb)); (exact HY.out.ext (Ext.trans (by repeat (first | exact Ext.refl _ | assumption | refine Ext.alloc ?_ _ | refine Ext.drew ?_ | refine Ext.drewN ?_ _ | (refine Ext.setCell ?_ (by simp <;> omega) _) | refine Ext.trans ?_ (by assumption))) hb)); rintro e w2 ⟨Z, cz, rfl, hS, hb2⟩; have HS := Lib.hid hS; clear hS) | (go_at_call 86; refine Calls.mono (CM.out _ _ _ ?_) ?_; (exact HS.out.ri); rintro e w3 ⟨rfl, rfl⟩))
      go_ret2
      refine ⟨none, 0, ?_, ?_, (Ext.trans (by repeat (first | exact Ext.refl _ | assumption | refine Ext.alloc ?_ _ | refine Ext.drew ?_ | refine Ext.drewN ?_ _ | (refine Ext.setCell ?_ (by simp <;> omega) _) | refine Ext.trans ?_ (by assumption))) hb).trans hb2⟩
      · rw [HR.out, if_pos HM.out]; rfl
      · rw [HR.out, if_pos HM.out]; exact SL.nil _ _
    · have HM := Lib.hid hm
      generalize maxTo zs zs.length = mx at *
      have CM := Lib.hid cM; clear cM
      go_enter Tryd.func46, Tryd.ntmps46
      go_wp2_with (first | (go_at_call 61; refine Calls.mono (CC.out _ _ ?_ ?_) ?_; (exact HF.out.ext (by repeat (first | exact Ext.refl _ | assumption | refine Ext.alloc ?_ _ | refine Ext.drew ?_ | refine Ext.drewN ?_ _ | (refine Ext.setCell ?_ (by simp <;> omega) _) | refine Ext.trans ?_ (by assumption)))); (exact RL.two (Blk.new1 _ _ _ _) (HX.out.ext (by repeat (first | exact Ext.refl _ | assumption | refine Ext.alloc ?_ _ | refine Ext.drew ?_ | refine Ext.drewN ?_ _ | (refine Ext.setCell ?_ (by simp <;> omega) _) | refine Ext.trans ?_ (by assumption)))) (HY.out.ext (by repeat (first | exact Ext.refl _ | assumption | refine Ext.alloc ?_ _ | refine Ext.drew ?_ | refine Ext.drewN ?_ _ | (refine Ext.setCell ?_ (by simp <;> omega) _) | refine Ext.trans ?_ (by assumption))))); rintro e w1 ⟨rfl, hb⟩) | (go_at_call 78; refine Calls.mono (Calls.mono (CO.out _ ?_ ?_) (RetI.s (by rw [HZL.out]; omega))) ?_; (exact HX.out.ext (Ext.trans (by repeat (first | exact Ext.refl _ | assumption | refine Ext.alloc ?_ _ | refine Ext.drew ?_ | refine Ext.drewN ?_ _ | (refine Ext.setCell ?_ (by simp <;> omega) _) | refine Ext.trans ?_ (by assumption))) hb)); (exact HY.out.ext (Ext.trans (by repeat (first | exact Ext.refl _ | assumption | refine Ext.alloc ?_ _ | refine Ext.drew ?_ | refine Ext.drewN ?_ _ | (refine Ext.setCell ?_ (by simp <;> omega) _) | refine Ext.trans ?_ (by assumption))) hb)); rintro e w2 ⟨Z, cz, rfl, hS, hb2⟩; have HS := Lib.hid hS; clear hS) | (go_at_call 86; refine Calls.mono (CM.out _ _ _ ?_) ?_; (exact HS.out.ri); rintro e w3 ⟨rfl, rfl⟩))
      go_ret2
      refine ⟨Z, cz, ?_, ?_, (Ext.trans (by repeat (first | exact Ext.refl _ | assumption | refine Ext.alloc ?_ _ | refine Ext.drew ?_ | refine Ext.drewN ?_ _ | (refine Ext.setCell ?_ (by simp <;> omega) _) | refine Ext.trans ?_ (by assumption))) hb).trans hb2⟩
      · rw [HR.out, if_neg (show ¬ 1000000 < mx by have := HM.out; omega)]; rfl
      · rw [HR.out, if_neg (show ¬ 1000000 < mx by have := HM.out; omega)]; exact HS.out.mono (by have := hb.size; simp at this; omega)
  · have HR : Hid (joinR f xs ys = ([], caseErr2 f xs ys)) := Lib.hid (by unfold joinR; rw [if_pos hz])
    generalize joinR f xs ys = r at *
    generalize caseErr2 f xs ys = z at *
    have e0 : (z != 0) = true := by simpa using hz
    clear hz
    obtain ⟨name, body, ss⟩ := f
    simp only [FT.val] at *
    have CC := Lib.hid cC; clear cC
    go_enter Tryd.func46, Tryd.ntmps46
    go_wp2_with (first | (go_at_call 61; refine Calls.mono (CC.out _ _ ?_ ?_) ?_; (exact HF.out.ext (by repeat (first | exact Ext.refl _ | assumption | refine Ext.alloc ?_ _ | refine Ext.drew ?_ | refine Ext.drewN ?_ _ | (refine Ext.setCell ?_ (by simp <;> omega) _) | refine Ext.trans ?_ (by assumption)))); (exact RL.two (Blk.new1 _ _ _ _) (HX.out.ext (by repeat (first | exact Ext.refl _ | assumption | refine Ext.alloc ?_ _ | refine Ext.drew ?_ | refine Ext.drewN ?_ _ | (refine Ext.setCell ?_ (by simp <;> omega) _) | refine Ext.trans ?_ (by assumption)))) (HY.out.ext (by repeat (first | exact Ext.refl _ | assumption | refine Ext.alloc ?_ _ | refine Ext.drew ?_ | refine Ext.drewN ?_ _ | (refine Ext.setCell ?_ (by simp <;> omega) _) | refine Ext.trans ?_ (by assumption))))); rintro e w1 ⟨rfl, hb⟩))
    go_ret2
    exact ⟨none, 0, by rw [HR.out]; rfl, by rw [HR.out]; exact SL.nil _ _, (by repeat (first | exact Ext.refl _ | assumption | refine Ext.alloc ?_ _ | refine Ext.drew ?_ | refine Ext.drewN ?_ _ | (refine Ext.setCell ?_ (by simp <;> omega) _) | refine Ext.trans ?_ (by assumption)))⟩

def neg (z : Int) : Bool := decide (z < 0)
theorem neg_pred (w : World) : PredI 83 #[] neg w := fun W z _ => by
  show Calls Tryd.prog 83 #[.int .i64 z] W _
  have HB : Hid (neg z = decide (z < 0)) := Lib.hid rfl
  generalize neg z = n at *
  go_enter Tryd.func83, Tryd.ntmps83
  go_wp2
  go_ret
  exact ⟨by rw [HB.out]; rfl, rfl⟩
/-- What Taken, and what Lacking, returns. -/
def takeR (f : FT) (xs ys : List Int) : List Int × Int × Int :=
  if caseErr2 f xs ys ≠ 0 then ([], 0, caseErr2 f xs ys) else
  match idxOf neg (zipK (· - ·) xs ys) (zipK (· - ·) xs ys).length with | some k => ([], (k : Int), 20) | none => (zipK (· - ·) xs ys, 0, 0)
def lackR (f : FT) (xs ys : List Int) : List Int × Int := if caseErr2 f xs ys ≠ 0 then ([], caseErr2 f xs ys) else (zipK lacksI xs ys, 0)

set_option maxHeartbeats 2000000 in
theorem taken_any (f : FT) (A : Option Addr) (c : Nat) (X : Option Addr) (cx : Nat) (Y : Option Addr) (cy : Nat) (xs ys : List Int) (w : World) (hf : FR w A c f) (hx : RI w X xs.length xs) (hy : RI w Y ys.length ys) :
    Calls Tryd.prog 40 #[f.val A c, .slice X xs.length cx, .slice Y ys.length cy] w (RetSNE (takeR f xs ys).1 (takeR f xs ys).2.1 (takeR f xs ys).2.2 w) := by
  have cC := fun Z W h1 h2 => check_any f A c Z 2 2 [⟨X, cx, xs⟩, ⟨Y, cy, ys⟩] W h1 h2
  rw [checkErr_two] at cC
  simp only at cC
  have HF := Lib.hid hf; have HX := Lib.hid hx; have HY := Lib.hid hy; clear hf hx hy
  by_cases hz : caseErr2 f xs ys = 0
  · obtain ⟨h1, h2⟩ := case2_zero hz
    obtain ⟨h3, h4⟩ := case_zero h1
    obtain ⟨l1, b1⟩ := counts_zero h4
    obtain ⟨l2, b2⟩ := counts_zero h2
    obtain ⟨_, n1, n2, _⟩ := chk_zero h3
    have hxy : xs.length ≤ ys.length := by omega
    have hx120 : xs.length ≤ 120 := by omega
    have cO := fun W hx hy => combined_any 81 (fun _ _ => by kernel_rfl) X Y xs.length cx cy ys.length xs ys (zipK (· - ·) xs ys) W hx hy (zipK_len _ _ _) hxy (by omega)
      (fun W k hk => by rw [zipK_at _ _ _ _ hk]; exact minus_any _ _ W (by have := b1 k hk; omega) (by have := b2 k (by omega); omega))
    have hzl : (zipK (· - ·) xs ys).length = xs.length := zipK_len _ _ _
    have HR : Hid (takeR f xs ys = match idxOf neg (zipK (· - ·) xs ys) (zipK (· - ·) xs ys).length with | some k => ([], (k : Int), 20) | none => (zipK (· - ·) xs ys, 0, 0)) := Lib.hid (by unfold takeR; rw [if_neg (by rw [hz]; simp)])
    rw [hz] at cC
    have cI := fun A c W h => indexFunc_any 83 #[] (fun _ _ => by kernel_rfl) neg A (zipK (· - ·) xs ys).length c (zipK (· - ·) xs ys) W h (neg_pred W)
    generalize takeR f xs ys = r at *
    generalize zipK (· - ·) xs ys = zs at *
    have HZL := Lib.hid hzl; clear hzl
    clear b1 b2 h1 h2 h3 h4 hz l1 l2 n1 hxy
    obtain ⟨name, body, ss⟩ := f
    simp only [FT.val] at *
    have CC := Lib.hid cC; have CO := Lib.hid cO; clear cC cO
    cases hi : idxOf neg zs zs.length with
    | some k =>
      rw [hi] at HR
      simp only [hi] at cI
      have CI := Lib.hid cI; clear cI hi
      unfold optI at CI
      go_enter Tryd.func40, Tryd.ntmps40
      go_wp2_with (first | (go_at_call 61; refine Calls.mono (CC.out _ _ ?_ ?_) ?_; (exact HF.out.ext (by repeat (first | exact Ext.refl _ | assumption | refine Ext.alloc ?_ _ | refine Ext.drew ?_ | refine Ext.drewN ?_ _ | (refine Ext.setCell ?_ (by simp <;> omega) _) | refine Ext.trans ?_ (by assumption)))); (exact RL.two (Blk.new1 _ _ _ _) (HX.out.ext (by repeat (first | exact Ext.refl _ | assumption | refine Ext.alloc ?_ _ | refine Ext.drew ?_ | refine Ext.drewN ?_ _ | (refine Ext.setCell ?_ (by simp <;> omega) _) | refine Ext.trans ?_ (by assumption)))) (HY.out.ext (by repeat (first | exact Ext.refl _ | assumption | refine Ext.alloc ?_ _ | refine Ext.drew ?_ | refine Ext.drewN ?_ _ | (refine Ext.setCell ?_ (by simp <;> omega) _) | refine Ext.trans ?_ (by assumption))))); rintro e w1 ⟨rfl, hb⟩) | (go_at_call 78; refine Calls.mono (Calls.mono (CO.out _ ?_ ?_) (RetI.s (by rw [HZL.out]; omega))) ?_; (exact HX.out.ext (Ext.trans (by repeat (first | exact Ext.refl _ | assumption | refine Ext.alloc ?_ _ | refine Ext.drew ?_ | refine Ext.drewN ?_ _ | (refine Ext.setCell ?_ (by simp <;> omega) _) | refine Ext.trans ?_ (by assumption))) hb)); (exact HY.out.ext (Ext.trans (by repeat (first | exact Ext.refl _ | assumption | refine Ext.alloc ?_ _ | refine Ext.drew ?_ | refine Ext.drewN ?_ _ | (refine Ext.setCell ?_ (by simp <;> omega) _) | refine Ext.trans ?_ (by assumption))) hb)); rintro e w2 ⟨Z, cz, rfl, hS, hb2⟩; have HS := Lib.hid hS; clear hS) | (go_at_call 82; refine Calls.mono (CI.out _ _ _ ?_) ?_; (exact HS.out.ri); rintro e w3 ⟨rfl, rfl⟩))
      go_ret3
      exact ⟨none, 0, by rw [HR.out]; rfl, by rw [HR.out]; exact SL.nil _ _, (Ext.trans (by repeat (first | exact Ext.refl _ | assumption | refine Ext.alloc ?_ _ | refine Ext.drew ?_ | refine Ext.drewN ?_ _ | (refine Ext.setCell ?_ (by simp <;> omega) _) | refine Ext.trans ?_ (by assumption))) hb).trans hb2⟩
    | none =>
      rw [hi] at HR
      simp only [hi] at cI
      have CI := Lib.hid cI; clear cI hi
      unfold optI at CI
      go_enter Tryd.func40, Tryd.ntmps40
      go_wp2_with (first | (go_at_call 61; refine Calls.mono (CC.out _ _ ?_ ?_) ?_; (exact HF.out.ext (by repeat (first | exact Ext.refl _ | assumption | refine Ext.alloc ?_ _ | refine Ext.drew ?_ | refine Ext.drewN ?_ _ | (refine Ext.setCell ?_ (by simp <;> omega) _) | refine Ext.trans ?_ (by assumption)))); (exact RL.two (Blk.new1 _ _ _ _) (HX.out.ext (by repeat (first | exact Ext.refl _ | assumption | refine Ext.alloc ?_ _ | refine Ext.drew ?_ | refine Ext.drewN ?_ _ | (refine Ext.setCell ?_ (by simp <;> omega) _) | refine Ext.trans ?_ (by assumption)))) (HY.out.ext (by repeat (first | exact Ext.refl _ | assumption | refine Ext.alloc ?_ _ | refine Ext.drew ?_ | refine Ext.drewN ?_ _ | (refine Ext.setCell ?_ (by simp <;> omega) _) | refine Ext.trans ?_ (by assumption))))); rintro e w1 ⟨rfl, hb⟩) | (go_at_call 78; refine Calls.mono (Calls.mono (CO.out _ ?_ ?_) (RetI.s (by rw [HZL.out]; omega))) ?_; (exact HX.out.ext (Ext.trans (by repeat (first | exact Ext.refl _ | assumption | refine Ext.alloc ?_ _ | refine Ext.drew ?_ | refine Ext.drewN ?_ _ | (refine Ext.setCell ?_ (by simp <;> omega) _) | refine Ext.trans ?_ (by assumption))) hb)); (exact HY.out.ext (Ext.trans (by repeat (first | exact Ext.refl _ | assumption | refine Ext.alloc ?_ _ | refine Ext.drew ?_ | refine Ext.drewN ?_ _ | (refine Ext.setCell ?_ (by simp <;> omega) _) | refine Ext.trans ?_ (by assumption))) hb)); rintro e w2 ⟨Z, cz, rfl, hS, hb2⟩; have HS := Lib.hid hS; clear hS) | (go_at_call 82; refine Calls.mono (CI.out _ _ _ ?_) ?_; (exact HS.out.ri); rintro e w3 ⟨rfl, rfl⟩))
      go_ret3
      exact ⟨Z, cz, by rw [HR.out]; rfl, by rw [HR.out]; exact HS.out.mono (by have := hb.size; simp at this; omega), (Ext.trans (by repeat (first | exact Ext.refl _ | assumption | refine Ext.alloc ?_ _ | refine Ext.drew ?_ | refine Ext.drewN ?_ _ | (refine Ext.setCell ?_ (by simp <;> omega) _) | refine Ext.trans ?_ (by assumption))) hb).trans hb2⟩
  · have HR : Hid (takeR f xs ys = ([], 0, caseErr2 f xs ys)) := Lib.hid (by unfold takeR; rw [if_pos hz])
    generalize takeR f xs ys = r at *
    generalize caseErr2 f xs ys = z at *
    have e0 : (z != 0) = true := by simpa using hz
    clear hz
    obtain ⟨name, body, ss⟩ := f
    simp only [FT.val] at *
    have CC := Lib.hid cC; clear cC
    go_enter Tryd.func40, Tryd.ntmps40
    go_wp2_with (first | (go_at_call 61; refine Calls.mono (CC.out _ _ ?_ ?_) ?_; (exact HF.out.ext (by repeat (first | exact Ext.refl _ | assumption | refine Ext.alloc ?_ _ | refine Ext.drew ?_ | refine Ext.drewN ?_ _ | (refine Ext.setCell ?_ (by simp <;> omega) _) | refine Ext.trans ?_ (by assumption)))); (exact RL.two (Blk.new1 _ _ _ _) (HX.out.ext (by repeat (first | exact Ext.refl _ | assumption | refine Ext.alloc ?_ _ | refine Ext.drew ?_ | refine Ext.drewN ?_ _ | (refine Ext.setCell ?_ (by simp <;> omega) _) | refine Ext.trans ?_ (by assumption)))) (HY.out.ext (by repeat (first | exact Ext.refl _ | assumption | refine Ext.alloc ?_ _ | refine Ext.drew ?_ | refine Ext.drewN ?_ _ | (refine Ext.setCell ?_ (by simp <;> omega) _) | refine Ext.trans ?_ (by assumption))))); rintro e w1 ⟨rfl, hb⟩))
    go_ret3
    exact ⟨none, 0, by rw [HR.out]; rfl, by rw [HR.out]; exact SL.nil _ _, (by repeat (first | exact Ext.refl _ | assumption | refine Ext.alloc ?_ _ | refine Ext.drew ?_ | refine Ext.drewN ?_ _ | (refine Ext.setCell ?_ (by simp <;> omega) _) | refine Ext.trans ?_ (by assumption)))⟩

set_option maxHeartbeats 2000000 in
theorem lacking_any (f : FT) (A : Option Addr) (c : Nat) (X : Option Addr) (cx : Nat) (Y : Option Addr) (cy : Nat) (xs ys : List Int) (w : World) (hf : FR w A c f) (hx : RI w X xs.length xs) (hy : RI w Y ys.length ys) :
    Calls Tryd.prog 41 #[f.val A c, .slice X xs.length cx, .slice Y ys.length cy] w (RetSE (lackR f xs ys).1 (lackR f xs ys).2 w) := by
  have cC := fun Z W h1 h2 => check_any f A c Z 2 2 [⟨X, cx, xs⟩, ⟨Y, cy, ys⟩] W h1 h2
  rw [checkErr_two] at cC
  simp only at cC
  have HF := Lib.hid hf; have HX := Lib.hid hx; have HY := Lib.hid hy; clear hf hx hy
  by_cases hz : caseErr2 f xs ys = 0
  · obtain ⟨h1, h2⟩ := case2_zero hz
    obtain ⟨h3, h4⟩ := case_zero h1
    obtain ⟨l1, b1⟩ := counts_zero h4
    obtain ⟨l2, b2⟩ := counts_zero h2
    obtain ⟨_, n1, n2, _⟩ := chk_zero h3
    have hxy : xs.length ≤ ys.length := by omega
    have hx120 : xs.length ≤ 120 := by omega
    have cO := fun W hx hy => combined_any 84 (fun _ _ => by kernel_rfl) X Y xs.length cx cy ys.length xs ys (zipK lacksI xs ys) W hx hy (zipK_len _ _ _) hxy (by omega)
      (fun W k hk => by rw [zipK_at _ _ _ _ hk]; exact lacks_any _ _ W (by have := b1 k hk; omega) (by have := b2 k (by omega); omega))
    have hzl : (zipK lacksI xs ys).length = xs.length := zipK_len _ _ _
    have HR : Hid (lackR f xs ys = (zipK lacksI xs ys, 0)) := Lib.hid (by unfold lackR; rw [if_neg (by rw [hz]; simp)])
    rw [hz] at cC
    generalize lackR f xs ys = r at *
    generalize zipK lacksI xs ys = zs at *
    have HZL := Lib.hid hzl; clear hzl
    clear b1 b2 h1 h2 h3 h4 hz l1 l2 n1 hxy
    obtain ⟨name, body, ss⟩ := f
    simp only [FT.val] at *
    have CC := Lib.hid cC; have CO := Lib.hid cO; clear cC cO
    go_enter Tryd.func41, Tryd.ntmps41
    go_wp2_with (first | (go_at_call 61; refine Calls.mono (CC.out _ _ ?_ ?_) ?_; (exact HF.out.ext (by repeat (first | exact Ext.refl _ | assumption | refine Ext.alloc ?_ _ | refine Ext.drew ?_ | refine Ext.drewN ?_ _ | (refine Ext.setCell ?_ (by simp <;> omega) _) | refine Ext.trans ?_ (by assumption)))); (exact RL.two (Blk.new1 _ _ _ _) (HX.out.ext (by repeat (first | exact Ext.refl _ | assumption | refine Ext.alloc ?_ _ | refine Ext.drew ?_ | refine Ext.drewN ?_ _ | (refine Ext.setCell ?_ (by simp <;> omega) _) | refine Ext.trans ?_ (by assumption)))) (HY.out.ext (by repeat (first | exact Ext.refl _ | assumption | refine Ext.alloc ?_ _ | refine Ext.drew ?_ | refine Ext.drewN ?_ _ | (refine Ext.setCell ?_ (by simp <;> omega) _) | refine Ext.trans ?_ (by assumption))))); rintro e w1 ⟨rfl, hb⟩) | (go_at_call 78; refine Calls.mono (Calls.mono (CO.out _ ?_ ?_) (RetI.s (by rw [HZL.out]; omega))) ?_; (exact HX.out.ext (Ext.trans (by repeat (first | exact Ext.refl _ | assumption | refine Ext.alloc ?_ _ | refine Ext.drew ?_ | refine Ext.drewN ?_ _ | (refine Ext.setCell ?_ (by simp <;> omega) _) | refine Ext.trans ?_ (by assumption))) hb)); (exact HY.out.ext (Ext.trans (by repeat (first | exact Ext.refl _ | assumption | refine Ext.alloc ?_ _ | refine Ext.drew ?_ | refine Ext.drewN ?_ _ | (refine Ext.setCell ?_ (by simp <;> omega) _) | refine Ext.trans ?_ (by assumption))) hb)); rintro e w2 ⟨Z, cz, rfl, hS, hb2⟩; have HS := Lib.hid hS; clear hS))
    go_ret2
    exact ⟨Z, cz, by rw [HR.out]; rfl, by rw [HR.out]; exact HS.out.mono (by have := hb.size; simp at this; omega), (Ext.trans (by repeat (first | exact Ext.refl _ | assumption | refine Ext.alloc ?_ _ | refine Ext.drew ?_ | refine Ext.drewN ?_ _ | (refine Ext.setCell ?_ (by simp <;> omega) _) | refine Ext.trans ?_ (by assumption))) hb).trans hb2⟩
  · have HR : Hid (lackR f xs ys = ([], caseErr2 f xs ys)) := Lib.hid (by unfold lackR; rw [if_pos hz])
    generalize lackR f xs ys = r at *
    generalize caseErr2 f xs ys = z at *
    have e0 : (z != 0) = true := by simpa using hz
    clear hz
    obtain ⟨name, body, ss⟩ := f
    simp only [FT.val] at *
    have CC := Lib.hid cC; clear cC
    go_enter Tryd.func41, Tryd.ntmps41
    go_wp2_with (first | (go_at_call 61; refine Calls.mono (CC.out _ _ ?_ ?_) ?_; (exact HF.out.ext (by repeat (first | exact Ext.refl _ | assumption | refine Ext.alloc ?_ _ | refine Ext.drew ?_ | refine Ext.drewN ?_ _ | (refine Ext.setCell ?_ (by simp <;> omega) _) | refine Ext.trans ?_ (by assumption)))); (exact RL.two (Blk.new1 _ _ _ _) (HX.out.ext (by repeat (first | exact Ext.refl _ | assumption | refine Ext.alloc ?_ _ | refine Ext.drew ?_ | refine Ext.drewN ?_ _ | (refine Ext.setCell ?_ (by simp <;> omega) _) | refine Ext.trans ?_ (by assumption)))) (HY.out.ext (by repeat (first | exact Ext.refl _ | assumption | refine Ext.alloc ?_ _ | refine Ext.drew ?_ | refine Ext.drewN ?_ _ | (refine Ext.setCell ?_ (by simp <;> omega) _) | refine Ext.trans ?_ (by assumption))))); rintro e w1 ⟨rfl, hb⟩))
    go_ret2
    exact ⟨none, 0, by rw [HR.out]; rfl, by rw [HR.out]; exact SL.nil _ _, (by repeat (first | exact Ext.refl _ | assumption | refine Ext.alloc ?_ _ | refine Ext.drew ?_ | refine Ext.drewN ?_ _ | (refine Ext.setCell ?_ (by simp <;> omega) _) | refine Ext.trans ?_ (by assumption)))⟩
end Go.Proofs.YtiailnblfonhjaaDoor
