/-
  Walks: the em, greatest common divisors, fractions in lowest terms.
-/
import Derived.Test.YtaopcpfgmjpliaaDoorBox
import Derived.StillTailTactics
namespace Go.Proofs.YtaopcpfgmjpliaaDoor
open Go.RowKit

theorem em_any (b : Int) (w : World) (h : 0 ≤ b ∧ b ≤ 1000) : Calls Tryd.prog 21 #[.int .i64 b] w (Same (.int .i64 (60 * b)) w) := by
  obtain ⟨h1, h2⟩ := h
  go_enter Tryd.func21, Tryd.ntmps21
  go_wp2
  go_ret
  exact ⟨rfl, rfl⟩
theorem rEm_any (f : FT) (A : Option Addr) (c : Nat) (w : World) (h : 0 ≤ f.body ∧ f.body ≤ 1000) : Calls Tryd.prog 11 #[f.val A c] w (Ret (.int .i64 (60 * f.body)) w) := by
  obtain ⟨name, body, ss⟩ := f
  obtain ⟨h1, h2⟩ := h
  simp only [FT.val] at *
  go_enter Tryd.func11, Tryd.ntmps11
  go_wp2
  go_ret
  exact Ret.mk' rfl (by repeat (first | exact Ext.refl _ | assumption | refine Ext.alloc ?_ _ | refine Ext.drew ?_ | refine Ext.drewN ?_ _ | (refine Ext.setCell ?_ (by simp <;> omega) _) | refine Ext.trans ?_ (by assumption)))
def emR (f : FT) : Int × Int := if (chk f).2 ≠ 0 then (0, (chk f).2) else (60 * f.body, 0)
def emV (f : FT) : Value := .tuple #[.int .i64 (emR f).1, .int .i64 (emR f).2]
set_option maxHeartbeats 1000000 in
theorem emOf_any (f : FT) (A : Option Addr) (c : Nat) (w : World) (hf : FR w A c f) : Calls Tryd.prog 8 #[f.val A c] w (Ret (emV f) w) := by
  have cR := fun W h => checkFount_any f A c W h
  unfold ChkV at cR
  have HV : Hid (emV f = .tuple #[.int .i64 (emR f).1, .int .i64 (emR f).2]) := Lib.hid rfl
  have HF := Lib.hid hf; clear hf
  by_cases hz : (chk f).2 = 0
  · have HE : Hid (emR f = (60 * f.body, 0)) := Lib.hid (by unfold emR; rw [if_neg (by simpa using hz)])
    obtain ⟨⟨b1, b2⟩, _⟩ := chk_zero hz
    rw [hz] at cR
    clear hz
    generalize emV f = V at *
    generalize emR f = r at *
    generalize (chk f).1 = n1 at *
    obtain ⟨name, body, ss⟩ := f
    simp only [FT.val] at *
    have CE := Lib.hid (fun W => em_any body W (by omega))
    have CR := Lib.hid cR; clear cR
    go_enter Tryd.func8, Tryd.ntmps8
    go_wp2_with (first | (go_at_call 6; refine Calls.mono (CR.out _ ?_) ?_; (exact HF.out.ext (by repeat (first | exact Ext.refl _ | assumption | refine Ext.alloc ?_ _ | refine Ext.drew ?_ | refine Ext.drewN ?_ _ | (refine Ext.setCell ?_ (by simp <;> omega) _) | refine Ext.trans ?_ (by assumption)))); rintro e w1 ⟨rfl, hb⟩; obtain ⟨k0, k1, k2, kl⟩ := ((Blk.new _ _ _).ext hb).c3) | (go_at_call 21; refine Calls.mono (CE.out _) ?_; rintro e w2 ⟨rfl, rfl⟩))
    go_ret2
    exact Ret.mk' (by rw [HV.out, HE.out]; rfl) (Ext.trans (by repeat (first | exact Ext.refl _ | assumption | refine Ext.alloc ?_ _ | refine Ext.drew ?_ | refine Ext.drewN ?_ _ | (refine Ext.setCell ?_ (by simp <;> omega) _) | refine Ext.trans ?_ (by assumption))) hb)
  · have HE : Hid (emR f = (0, (chk f).2)) := Lib.hid (by unfold emR; rw [if_pos hz])
    generalize emV f = V at *
    generalize emR f = r at *
    generalize chk f = p at *
    obtain ⟨n, z⟩ := p
    simp only at cR hz HE
    have e0 : (z != 0) = true := by simpa using hz
    obtain ⟨name, body, ss⟩ := f
    simp only [FT.val] at *
    have CR := Lib.hid cR; clear cR hz
    go_enter Tryd.func8, Tryd.ntmps8
    go_wp2_with (first | (go_at_call 6; refine Calls.mono (CR.out _ ?_) ?_; (exact HF.out.ext (by repeat (first | exact Ext.refl _ | assumption | refine Ext.alloc ?_ _ | refine Ext.drew ?_ | refine Ext.drewN ?_ _ | (refine Ext.setCell ?_ (by simp <;> omega) _) | refine Ext.trans ?_ (by assumption)))); rintro e w1 ⟨rfl, hb⟩))
    go_ret2
    exact Ret.mk' (by rw [HV.out, HE.out]; rfl) (by repeat (first | exact Ext.refl _ | assumption | refine Ext.alloc ?_ _ | refine Ext.drew ?_ | refine Ext.drewN ?_ _ | (refine Ext.setCell ?_ (by simp <;> omega) _) | refine Ext.trans ?_ (by assumption)))

def gcdZ (a b : Int) : Int := (Nat.gcd a.toNat b.toNat : Nat)
theorem gcdZ_zero {a : Int} (h : 0 ≤ a) : gcdZ a 0 = a := by unfold gcdZ; simp; omega
theorem gcdZ_step {a b : Int} (ha : 0 ≤ a) (hb : 0 < b) : gcdZ a b = gcdZ b (a % b) := by
  unfold gcdZ
  have h : (a % b).toNat = a.toNat % b.toNat := by
    obtain ⟨x, rfl⟩ := Int.eq_ofNat_of_zero_le ha
    obtain ⟨y, rfl⟩ := Int.eq_ofNat_of_zero_le (Int.le_of_lt hb)
    norm_cast
  rw [h, Nat.gcd_comm a.toNat, Nat.gcd_rec, Nat.gcd_comm]
theorem gcdZ_bd {a b : Int} (ha : 0 < a) : 1 ≤ gcdZ a b ∧ gcdZ a b ≤ a := by
  unfold gcdZ
  have h1 : 0 < Nat.gcd a.toNat b.toNat := Nat.gcd_pos_of_pos_left _ (by omega)
  have h2 : Nat.gcd a.toNat b.toNat ≤ a.toNat := Nat.gcd_le_left _ (by omega)
  omega
end Go.Proofs.YtaopcpfgmjpliaaDoor
