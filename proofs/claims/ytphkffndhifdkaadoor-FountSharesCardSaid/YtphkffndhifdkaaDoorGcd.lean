/-
  Walks: the em, greatest common divisors, fractions in lowest terms.
-/
import Derived.Test.YtphkffndhifdkaaDoorBox
import Derived.StillTailTactics
namespace Go.Proofs.YtphkffndhifdkaaDoor
open Go.RowKit

theorem em_any (b : Int) (w : World) (h : 0 ≤ b ∧ b ≤ 1000) : Calls Tryd.prog 72 #[.int .i64 b] w (Same (.int .i64 (60 * b)) w) := by
  obtain ⟨h1, h2⟩ := h
  go_enter Tryd.func72, Tryd.ntmps72
  go_wp2
  go_ret
  exact ⟨rfl, rfl⟩
theorem rEm_any (f : FT) (A : Option Addr) (c : Nat) (w : World) (h : 0 ≤ f.body ∧ f.body ≤ 1000) : Calls Tryd.prog 34 #[f.val A c] w (Ret (.int .i64 (60 * f.body)) w) := by
  obtain ⟨name, body, ss⟩ := f
  obtain ⟨h1, h2⟩ := h
  simp only [FT.val] at *
  go_enter Tryd.func34, Tryd.ntmps34
  go_wp2
  go_ret
  exact Ret.mk' rfl (by repeat (first | exact Ext.refl _ | assumption | refine Ext.alloc ?_ _ | refine Ext.drew ?_ | refine Ext.drewN ?_ _ | (refine Ext.setCell ?_ (by simp <;> omega) _) | refine Ext.trans ?_ (by assumption)))
def emR (f : FT) : Int × Int := if (chk f).2 ≠ 0 then (0, (chk f).2) else (60 * f.body, 0)
def emV (f : FT) : Value := .tuple #[.int .i64 (emR f).1, .int .i64 (emR f).2]
set_option maxHeartbeats 1000000 in
theorem emOf_any (f : FT) (A : Option Addr) (c : Nat) (w : World) (hf : FR w A c f) : Calls Tryd.prog 31 #[f.val A c] w (Ret (emV f) w) := by
  have cR := fun W h => checkFount_any f A c W h
  unfold ChkV at cR
  have HV : Hid (emV f = .tuple #[.int .i64 (emR f).1, .int .i64 (emR f).2]) := Lib.hid rfl
  have HF := Lib.hid hf; clear hf
  by_cases hz : (chk f).2 = 0
  · have HE : Hid (emR f = (60 * f.body, 0)) := Lib.hid (by unfold emR; rw [if_neg (by simpa using hz)])
    obtain ⟨⟨b1, b2⟩, _⟩ := chk_zero hz
    rw [hz] at cR
    clear hz
    generalize emV f = V at *
    generalize emR f = r at *
    generalize (chk f).1 = n1 at *
    obtain ⟨name, body, ss⟩ := f
    simp only [FT.val] at *
    have CE := Lib.hid (fun W => em_any body W (by omega))
    have CR := Lib.hid cR; clear cR
    go_enter Tryd.func31, Tryd.ntmps31
    go_wp2_with (first | (go_at_call 30; refine Calls.mono (CR.out _ ?_) ?_; (exact HF.out.ext (by repeat (first | exact Ext.refl _ | assumption | refine Ext.alloc ?_ _ | refine Ext.drew ?_ | refine Ext.drewN ?_ _ | (refine Ext.setCell ?_ (by simp <;> omega) _) | refine Ext.trans ?_ (by assumption)))); rintro e w1 ⟨rfl, hb⟩; obtain ⟨k0, k1, k2, kl⟩ := ((Blk.new _ _ _).ext hb).c3) | (go_at_call 72; refine Calls.mono (CE.out _) ?_; rintro e w2 ⟨rfl, rfl⟩))
    go_ret2
    exact Ret.mk' (by rw [HV.out, HE.out]; rfl) (Ext.trans (by repeat (first | exact Ext.refl _ | assumption | refine Ext.alloc ?_ _ | refine Ext.drew ?_ | refine Ext.drewN ?_ _ | (refine Ext.setCell ?_ (by simp <;> omega) _) | refine Ext.trans ?_ (by assumption))) hb)
  · have HE : Hid (emR f = (0, (chk f).2)) := Lib.hid (by unfold emR; rw [if_pos hz])
    generalize emV f = V at *
    generalize emR f = r at *
    generalize chk f = p at *
    obtain ⟨n, z⟩ := p
    simp only at cR hz HE
    have e0 : (z != 0) = true := by simpa using hz
    obtain ⟨name, body, ss⟩ := f
    simp only [FT.val] at *
    have CR := Lib.hid cR; clear cR hz
    go_enter Tryd.func31, Tryd.ntmps31
    go_wp2_with (first | (go_at_call 30; refine Calls.mono (CR.out _ ?_) ?_; (exact HF.out.ext (by repeat (first | exact Ext.refl _ | assumption | refine Ext.alloc ?_ _ | refine Ext.drew ?_ | refine Ext.drewN ?_ _ | (refine Ext.setCell ?_ (by simp <;> omega) _) | refine Ext.trans ?_ (by assumption)))); rintro e w1 ⟨rfl, hb⟩))
    go_ret2
    exact Ret.mk' (by rw [HV.out, HE.out]; rfl) (by repeat (first | exact Ext.refl _ | assumption | refine Ext.alloc ?_ _ | refine Ext.drew ?_ | refine Ext.drewN ?_ _ | (refine Ext.setCell ?_ (by simp <;> omega) _) | refine Ext.trans ?_ (by assumption)))

def gcdZ (a b : Int) : Int := (Nat.gcd a.toNat b.toNat : Nat)
theorem gcdZ_zero {a : Int} (h : 0 ≤ a) : gcdZ a 0 = a := by unfold gcdZ; simp; omega
theorem gcdZ_step {a b : Int} (ha : 0 ≤ a) (hb : 0 < b) : gcdZ a b = gcdZ b (a % b) := by
  unfold gcdZ
  have h : (a % b).toNat = a.toNat % b.toNat := by
    obtain ⟨x, rfl⟩ := Int.eq_ofNat_of_zero_le ha
    obtain ⟨y, rfl⟩ := Int.eq_ofNat_of_zero_le (Int.le_of_lt hb)
    norm_cast
  rw [h, Nat.gcd_comm a.toNat, Nat.gcd_rec, Nat.gcd_comm]
theorem gcdZ_bd {a b : Int} (ha : 0 < a) : 1 ≤ gcdZ a b ∧ gcdZ a b ≤ a := by
  unfold gcdZ
  have h1 : 0 < Nat.gcd a.toNat b.toNat := Nat.gcd_pos_of_pos_left _ (by omega)
  have h2 : Nat.gcd a.toNat b.toNat ≤ a.toNat := Nat.gcd_le_left _ (by omega)
  omega
theorem divisor_any (k : Nat) : ∀ (a b : Int) (w : World), b.toNat ≤ k → 0 ≤ a → a ≤ 1000000 → 0 ≤ b → b ≤ 1000000 →
    Calls Tryd.prog 88 #[.int .i64 a, .int .i64 b] w (Same (.int .i64 (gcdZ a b)) w) := by
  induction k with
  | zero =>
    intro a b w hk ha ha' hb hb'
    obtain rfl : b = 0 := by omega
    have HG := Lib.hid (gcdZ_zero ha)
    go_enter Tryd.func88, Tryd.ntmps88
    go_wp2_with fail
    go_ret
    exact ⟨by rw [HG.out]; rfl, rfl⟩
  | succ k ih =>
    intro a b w hk ha ha' hb hb'
    by_cases h0 : b = 0
    · subst h0
      have HG := Lib.hid (gcdZ_zero ha)
      clear ih
      go_enter Tryd.func88, Tryd.ntmps88
      go_wp2_with fail
      go_ret
      exact ⟨by rw [HG.out]; rfl, rfl⟩
    · have e0 : (b == 0) = false := by simpa using h0
      have HG := Lib.hid (gcdZ_step (a := a) (b := b) ha (by omega))
      have m1 := Int.emod_nonneg a h0
      have m2 := Int.emod_lt_of_pos a (show 0 < b by omega)
      have CI := Lib.hid (fun W => ih b (a % b) W (by omega) hb hb' m1 (by omega))
      clear ih h0
      generalize gcdZ a b = g at *
      generalize gcdZ b (a % b) = g' at *
      go_enter Tryd.func88, Tryd.ntmps88
      go_wp2_with (go_at_call 88; refine Calls.mono (CI.out _) ?_; rintro e w' ⟨rfl, rfl⟩)
      go_ret
      exact ⟨by rw [HG.out]; rfl, rfl⟩
theorem size_any (z : Int) (w : World) (h : -1000000000000000000 ≤ z ∧ z ≤ 1000000000000000000) : Calls Tryd.prog 18 #[.int .i64 z] w (Same (.int .i64 (max z (-z))) w) := by
  obtain ⟨h1, h2⟩ := h
  go_enter Tryd.func18, Tryd.ntmps18
  go_wp2
  go_ret
  exact ⟨rfl, rfl⟩
theorem size_pos (z : Int) (w : World) (h : 0 ≤ z ∧ z ≤ 1000000000000000000) : Calls Tryd.prog 18 #[.int .i64 z] w (Same (.int .i64 z) w) := by
  have h1 := size_any z w (by omega)
  rwa [show max z (-z) = z by omega] at h1
set_option maxHeartbeats 1000000 in
theorem bGcd_any (a b : Int) (w : World) (ha : 0 ≤ a ∧ a ≤ 1000000) (hb : 0 ≤ b ∧ b ≤ 1000000) :
    Calls Tryd.prog 90 #[.int .i64 a, .int .i64 b] w (Ret (.int .i64 (gcdZ a b)) w) := by
  generalize hg : gcdZ a b = g
  have HG := Lib.hid hg; clear hg
  have HA := Lib.hid ha; have HB := Lib.hid hb; clear ha hb
  go_enter Tryd.func90, Tryd.ntmps90
  go_wp2
  go_loopw [0, 1] (fun x y wr => ∃ p q : Int, x = .int .i64 p ∧ y = .int .i64 q ∧ (0 ≤ p ∧ p ≤ 1000000) ∧ (0 ≤ q ∧ q ≤ 1000000) ∧ Hid (gcdZ p q = g) ∧ Ext w wr) (fun _ y _ => (intOf y).toNat)
  case atStart => exact ⟨a, b, rfl, rfl, HA.out, HB.out, HG, Ext.refl _⟩
  case round =>
    obtain ⟨p, q, rfl, rfl, ⟨p1, p2⟩, ⟨q1, q2⟩, hpq, hx⟩ := hrel
    have HX := Lib.hid hx; clear hx HA HB HG
    by_cases h0 : q = 0
    · subst h0
      have HR : Hid (p = g) := Lib.hid (by rw [← hpq.out, gcdZ_zero p1])
      go_wp2_with (go_at_call 18; refine Calls.mono (size_pos p _ (by omega)) ?_; rintro e w' ⟨rfl, rfl⟩)
      go_ret
      exact Ret.mk' (by rw [← HR.out]; rfl) (HX.out.trans (by repeat (first | exact Ext.refl _ | assumption | refine Ext.alloc ?_ _ | refine Ext.drew ?_ | refine Ext.drewN ?_ _ | (refine Ext.setCell ?_ (by simp <;> omega) _) | refine Ext.trans ?_ (by assumption))))
    · have e0 : (q == 0) = false := by simpa using h0
      have e1 : (q != 0) = true := by simpa using h0
      have e2 : ¬ q = 0 := h0
      have HG2 := Lib.hid (gcdZ_step (a := p) (b := q) p1 (by omega))
      have m1 := Int.emod_nonneg p h0
      have m2 := Int.emod_lt_of_pos p (show 0 < q by omega)
      have j1 : p.tmod q = p % q := Int.tmod_eq_emod_of_nonneg p1
      have j2 : IntKind.i64.wrap (p % q) = p % q := IntWalk.i64_in _ (by omega)
      go_wp2
      go_quiet (fail)
      clear j1 j2
      go_wp2
      go_roundw
      case rel => exact ⟨q, p % q, rfl, rfl, ⟨q1, q2⟩, ⟨m1, by omega⟩, Lib.hid (by rw [← HG2.out, hpq.out]), HX.out.trans (by repeat (first | exact Ext.refl _ | assumption | refine Ext.alloc ?_ _ | refine Ext.drew ?_ | refine Ext.drewN ?_ _ | (refine Ext.setCell ?_ (by simp <;> omega) _) | refine Ext.trans ?_ (by assumption)))⟩
      case measure => simp [intOf]; omega
set_option maxRecDepth 100000 in
set_option maxHeartbeats 2000000 in
theorem lowest_any (n d : Int) (w : World) (hn : 1 ≤ n ∧ n ≤ 1000000) (hd : 1 ≤ d ∧ d ≤ 1000000) :
    Calls Tryd.prog 56 #[.int .i64 n, .int .i64 d] w (Ret (.agg #[.int .i64 (n / gcdZ n d), .int .i64 (d / gcdZ n d)]) w) := by
  have CG := Lib.hid (fun W => bGcd_any n d W (by omega) (by omega))
  obtain ⟨g1, g2⟩ := gcdZ_bd (a := n) (b := d) (by omega)
  generalize gcdZ n d = g at *
  obtain ⟨n1, n2⟩ := hn
  obtain ⟨d1, d2⟩ := hd
  have e0 : (g == 0) = false := by rw [beq_eq_false_iff_ne]; omega
  have e1 : ¬ g = 0 := by omega
  have i1 := Int.ediv_nonneg (show 0 ≤ n by omega) (show 0 ≤ g by omega)
  have i2 := Int.ediv_le_self g (show 0 ≤ n by omega)
  have i3 := Int.ediv_nonneg (show 0 ≤ d by omega) (show 0 ≤ g by omega)
  have i4 := Int.ediv_le_self g (show 0 ≤ d by omega)
  have j1 : n.tdiv g = n / g := Int.tdiv_eq_ediv_of_nonneg (by omega)
  have j2 : d.tdiv g = d / g := Int.tdiv_eq_ediv_of_nonneg (by omega)
  have j3 : IntKind.i64.wrap (n / g) = n / g := IntWalk.i64_in _ (by omega)
  have j4 : IntKind.i64.wrap (d / g) = d / g := IntWalk.i64_in _ (by omega)
  go_enter Tryd.func56, Tryd.ntmps56
  go_wp2_with (go_at_call 90; refine Calls.mono (CG.out _) ?_; rintro e w1 ⟨rfl, hb⟩; have HB := Lib.hid ((Blk.new _ _ _).ext hb); obtain ⟨b0, b1, f0, f1, bl⟩ := HB.out.c2; have HX := Lib.hid (show Ext w w1 from Ext.trans (by repeat (first | exact Ext.refl _ | assumption | refine Ext.alloc ?_ _ | refine Ext.drew ?_ | refine Ext.drewN ?_ _ | (refine Ext.setCell ?_ (by simp <;> omega) _) | refine Ext.trans ?_ (by assumption))) hb); clear hb)
  go_still_tail 7, (by kernel_rfl)
  change wpList _ _ _ _ _ w1.drew
  clear j1 j2 j3 j4
  go_wp2
  have v0 := (HB.out.set_ 0 (.int .i64 (n / g))).c2.1
  have v1 := ((HB.out.set_ 0 (.int .i64 (n / g))).set_ 1 (.int .i64 (d / g))).c2.2.1
  refine bodyPost_ret (v := .agg #[.int .i64 (n / g), .int .i64 (d / g)]) (by simp [results, Tryd.results56, go_sem, v0, v1]) rfl ⟨rfl, ?_⟩
  exact Ext.drew (Ext.setCell (Ext.setCell HX.out (Nat.le_refl _) _) (Nat.le_refl _) _)
end Go.Proofs.YtphkffndhifdkaaDoor
