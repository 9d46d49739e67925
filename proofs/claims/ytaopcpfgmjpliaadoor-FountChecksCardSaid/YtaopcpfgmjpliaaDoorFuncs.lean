/-
  Walks: slices.IndexFunc and ContainsFunc over ints; counts are checked.
-/
import Derived.Test.YtaopcpfgmjpliaaDoorRead
import Derived.Test.YtaopcpfgmjpliaaDoorRefB
namespace Go.Proofs.YtaopcpfgmjpliaaDoor
open Go.RowKit

/-- The first of the first n numbers that meets p. -/
def idxOf (p : Int → Bool) (zs : List Int) : Nat → Option Nat
  | 0 => none
  | n + 1 => match idxOf p zs n with | some k => some k | none => if p (zs.getD n 0) = true then some n else none
theorem idxOf_none {p : Int → Bool} {zs : List Int} : ∀ {n : Nat}, (∀ k, k < n → p (zs.getD k 0) = false) → idxOf p zs n = none
  | 0, _ => rfl
  | n + 1, h => by rw [idxOf, idxOf_none (fun k hk => h k (by omega))]; simp only; rw [if_neg (by rw [h n (by omega)]; simp)]
theorem idxOf_some {p : Int → Bool} {zs : List Int} {k : Nat} (hc : ∀ j, j < k → p (zs.getD j 0) = false) (hb : p (zs.getD k 0) = true) : ∀ {n : Nat}, k < n → idxOf p zs n = some k
  | n + 1, hk => by
    rw [idxOf]
    by_cases h : k < n
    · rw [idxOf_some hc hb h]
    · obtain rfl : k = n := by omega
      rw [idxOf_none hc]; simp only; rw [if_pos hb]
theorem idxOf_isSome (p : Int → Bool) (zs : List Int) : ∀ n, (idxOf p zs n).isSome = true ↔ ∃ k, k < n ∧ p (zs.getD k 0) = true
  | 0 => by simp [idxOf]
  | n + 1 => by
    have ih := idxOf_isSome p zs n
    rw [idxOf]
    cases h : idxOf p zs n with
    | some k => rw [h] at ih; simp only [Option.isSome_some, true_iff] at ih ⊢; obtain ⟨k, hk, hp⟩ := ih; exact ⟨k, by omega, hp⟩
    | none =>
      rw [h] at ih; simp only [Option.isSome_none, Bool.false_eq_true, false_iff] at ih
      by_cases hp : p (zs.getD n 0) = true
      · simp only [if_pos hp, Option.isSome_some, true_iff]; exact ⟨n, by omega, hp⟩
      · simp only [if_neg hp, Option.isSome_none, Bool.false_eq_true, false_iff]
        rintro ⟨k, hk, hp'⟩
        by_cases hkn : k < n
        · exact ih ⟨k, hkn, hp'⟩
        · obtain rfl : k = n := by omega
          exact hp hp'

/-- What is asked of a function value that answers a bool. -/
def PredI (g : Nat) (lb : Array Value) (p : Int → Bool) (w : World) : Prop :=
  ∀ (W : World) (z : Int), Ext w W → Calls Tryd.prog g (#[.int .i64 z] ++ lb) W (Same (.bool (p z)) W)
theorem PredI.ext {g : Nat} {lb : Array Value} {p : Int → Bool} {w w' : World} (h : PredI g lb p w) (hx : Ext w w') : PredI g lb p w' := fun W z hW => h W z (hx.trans hW)

set_option maxHeartbeats 1000000 in
theorem indexFunc_any (g : Nat) (lb : Array Value) (eg : ∀ args w, (callFunc g args).run Tryd.prog w = .ok (.enter g args) w) (p : Int → Bool) (A : Option Addr) (n c : Nat) (zs : List Int) (w : World) (h : RI w A n zs) (hp : PredI g lb p w) :
    Calls Tryd.prog 55 #[.slice A n c, .func (.func g) #[] lb] w (Same (.int .i64 (optI (idxOf p zs n))) w) := by
  have hbig := h.big
  go_enter Tryd.func55, Tryd.ntmps55
  go_wp2
  go_loop [8] (fun i => ∃ k : Nat, k ≤ n ∧ i = .int .i64 k ∧ ∀ j, j < k → p (zs.getD j 0) = false) (fun i => n - (intOf i).toNat)
  case atStart => exact ⟨0, Nat.zero_le _, rfl, fun j hj => absurd hj (by omega)⟩
  case round =>
    obtain ⟨k, hk, rfl, hno⟩ := hrel
    have HNO := Lib.hid hno; clear hno
    by_cases hlt : k < n
    · obtain ⟨b, off, rfl, hbw, hcell⟩ := h.2.2 (by omega)
      have c1 := hcell k hlt
      have HK : Hid (p (zs.getD k 0) = false → ∀ j, j < k + 1 → p (zs.getD j 0) = false) := Lib.hid (fun he j hj => by
        by_cases hj' : j < k
        · exact HNO.out j hj'
        · obtain rfl : j = k := by omega
          exact he)
      have HV := Lib.hid (fun he => idxOf_some (n := n) HNO.out he hlt)
      have cP := hp w (zs.getD k 0) (Ext.refl _)
      generalize zs.getD k 0 = z at *
      clear hcell h hp
      cases hpz : p z
      · rw [hpz] at cP
        have HPZ := Lib.hid hpz; clear hpz
        have CP := Lib.hid cP; clear cP
        go_wp2_with (go_at_fn g; refine Calls.mono CP.out ?_; rintro e W' ⟨rfl, rfl⟩)
        go_round
        case rel => exact ⟨k + 1, by omega, by go_num, HK.out HPZ.out⟩
        case measure => simp [intOf]; omega
      · rw [hpz] at cP
        have HPZ := Lib.hid hpz; clear hpz
        have CP := Lib.hid cP; clear cP
        go_wp2_with (go_at_fn g; refine Calls.mono CP.out ?_; rintro e W' ⟨rfl, rfl⟩)
        go_ret
        exact ⟨by rw [HV.out HPZ.out]; rfl, rfl⟩
    · obtain rfl : k = n := by omega
      have HV := Lib.hid (idxOf_none HNO.out)
      clear h hp
      go_wp2
      go_ret
      exact ⟨by rw [HV.out]; rfl, rfl⟩

theorem optI_dec (o : Option Nat) : decide (0 ≤ optI o) = o.isSome := by
  cases o with
  | none => rfl
  | some k => simp [optI]
set_option maxHeartbeats 1000000 in
theorem containsFunc_any (g : Nat) (lb : Array Value) (eg : ∀ args w, (callFunc g args).run Tryd.prog w = .ok (.enter g args) w) (p : Int → Bool) (A : Option Addr) (n c : Nat) (zs : List Int) (w : World) (h : RI w A n zs) (hp : PredI g lb p w) :
    Calls Tryd.prog 45 #[.slice A n c, .func (.func g) #[] lb] w (Same (.bool (idxOf p zs n).isSome) w) := by
  have HD := Lib.hid (optI_dec (idxOf p zs n))
  have cI := indexFunc_any g lb eg p A n c zs w h hp
  clear eg
  generalize optI (idxOf p zs n) = o at *
  have CI := Lib.hid cI; clear cI h hp
  go_enter Tryd.func45, Tryd.ntmps45
  go_wp2_with (go_at_call 55; refine Calls.mono CI.out ?_; rintro e W' ⟨rfl, rfl⟩)
  go_ret
  exact ⟨by rw [← HD.out]; rfl, rfl⟩

/-- Counts out of their range. -/
def badCount (z : Int) : Bool := !(decide (0 ≤ z) && decide (z ≤ 1000000))
theorem badCount_pred (w : World) : PredI 57 #[] badCount w := fun W z _ => by
  show Calls Tryd.prog 57 #[.int .i64 z] W _
  by_cases hz : 0 ≤ z ∧ z ≤ 1000000
  · have HB : Hid (badCount z = false) := Lib.hid (by unfold badCount; simp [hz])
    rw [HB.out]
    go_enter Tryd.func57, Tryd.ntmps57
    go_wp2_with (first | (go_at_call 35; refine Calls.mono (within_yes _ _ _ _ ?_) ?_; (omega); rintro e w1 ⟨rfl, rfl⟩) | (go_at_call 35; refine Calls.mono (within_no _ _ _ _ ?_) ?_; (omega); rintro e w1 ⟨rfl, rfl⟩))
    go_ret
    exact ⟨rfl, rfl⟩
  · have HB : Hid (badCount z = true) := Lib.hid (by unfold badCount; rw [Bool.not_eq_true', Bool.and_eq_false_iff, decide_eq_false_iff_not, decide_eq_false_iff_not]; omega)
    rw [HB.out]
    go_enter Tryd.func57, Tryd.ntmps57
    go_wp2_with (first | (go_at_call 35; refine Calls.mono (within_yes _ _ _ _ ?_) ?_; (omega); rintro e w1 ⟨rfl, rfl⟩) | (go_at_call 35; refine Calls.mono (within_no _ _ _ _ ?_) ?_; (omega); rintro e w1 ⟨rfl, rfl⟩))
    go_ret
    exact ⟨rfl, rfl⟩
/-- The error of counts of a right fount; of a fount, then of counts. -/
def countsErr (f : FT) (zs : List Int) : Int := if zs.length ≠ f.sorts.length then 10 else if (idxOf badCount zs zs.length).isSome = true then 2 else 0
def caseErr (f : FT) (zs : List Int) : Int := if (chk f).2 ≠ 0 then (chk f).2 else countsErr f zs

set_option maxHeartbeats 1000000 in
theorem checkCounts_any (f : FT) (A : Option Addr) (c : Nat) (B : Option Addr) (d : Nat) (zs : List Int) (w : World) (h : RI w B zs.length zs) :
    Calls Tryd.prog 48 #[f.val A c, .slice B zs.length d] w (Ret (.int .i64 (countsErr f zs)) w) := by
  obtain ⟨name, body, ss⟩ := f
  have HE : Hid (countsErr ⟨name, body, ss⟩ zs = if zs.length ≠ ss.length then 10 else if (idxOf badCount zs zs.length).isSome = true then 2 else 0) := Lib.hid rfl
  have cC := fun W h => containsFunc_any 57 #[] (fun _ _ => by kernel_rfl) badCount B zs.length d zs W h (badCount_pred W)
  have hbig := h.big
  have HR := Lib.hid h; clear h
  simp only [FT.val]
  by_cases hl : zs.length = ss.length
  · have e1 : ((zs.length : Int) != (ss.length : Int)) = false := by simp [hl]
    have HL := Lib.hid hl; clear hl
    cases hs : (idxOf badCount zs zs.length).isSome
    all_goals
      rw [hs] at HE
      simp only [hs] at cC
      have CC := Lib.hid cC; clear cC
      go_enter Tryd.func48, Tryd.ntmps48
      go_wp2_with (first | (go_at_call 45; refine Calls.mono (CC.out _ ?_) ?_; (exact HR.out.ext (by repeat (first | exact Ext.refl _ | assumption | refine Ext.alloc ?_ _ | refine Ext.drew ?_ | refine Ext.drewN ?_ _ | (refine Ext.setCell ?_ (by simp <;> omega) _) | refine Ext.trans ?_ (by assumption)))); rintro e w1 ⟨rfl, rfl⟩))
      go_ret
      exact Ret.mk' (by rw [HE.out, if_neg (by simp [HL.out])]; rfl) (by repeat (first | exact Ext.refl _ | assumption | refine Ext.alloc ?_ _ | refine Ext.drew ?_ | refine Ext.drewN ?_ _ | (refine Ext.setCell ?_ (by simp <;> omega) _) | refine Ext.trans ?_ (by assumption)))
  · have e1 : ((zs.length : Int) != (ss.length : Int)) = true := by simp; omega
    have HL := Lib.hid hl; clear hl cC
    go_enter Tryd.func48, Tryd.ntmps48
    go_wp2
    go_ret
    exact Ret.mk' (by rw [HE.out, if_pos HL.out]; rfl) (by repeat (first | exact Ext.refl _ | assumption | refine Ext.alloc ?_ _ | refine Ext.drew ?_ | refine Ext.drewN ?_ _ | (refine Ext.setCell ?_ (by simp <;> omega) _) | refine Ext.trans ?_ (by assumption)))
end Go.Proofs.YtaopcpfgmjpliaaDoor
