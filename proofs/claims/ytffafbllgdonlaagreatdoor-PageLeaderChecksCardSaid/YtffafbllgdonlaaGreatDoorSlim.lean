/-
  Walk: few sorts and few spaces (slim).
-/
import Derived.Test.YtffafbllgdonlaaGreatDoorGE
namespace Go.Proofs.YtffafbllgdonlaaGreatDoor
open Go.RowKit

/-- How many of the first k sorts are spaces. -/
def spN (ss : List TS) : Nat → Nat
  | 0 => 0
  | k + 1 => if (ss.getD k TS.zero).kind = 3 then spN ss k + 1 else spN ss k
theorem spN_le (ss : List TS) : ∀ k, spN ss k ≤ k
  | 0 => Nat.le_refl _
  | k + 1 => by have := spN_le ss k; unfold spN; split <;> omega
def slimB (f : FT) : Bool := fewB f && (decide (spN f.sorts f.sorts.length ≤ 3) || decide (8 < spN f.sorts f.sorts.length))
theorem slim_few {f : FT} (h : slimB f = true) : fewB f = true := by unfold slimB at h; rw [Bool.and_eq_true] at h; exact h.1
set_option maxRecDepth 100000 in
set_option maxHeartbeats 4000000 in
theorem slim_any (f : FT) (A : Option Addr) (c : Nat) (w : World) (hf : FR w A c f) : Calls Tryz.prog 9 #[f.val A c] w (Ret (.bool (slimB f)) w) := by
  have cF := fun W h => few_any f A c W h
  have HF := Lib.hid hf
  have hbig := hf.rt.big
  have HV : Hid (slimB f = (fewB f && (decide (spN f.sorts f.sorts.length ≤ 3) || decide (8 < spN f.sorts f.sorts.length)))) := Lib.hid rfl
  clear hf
  generalize slimB f = V at *
  generalize fewB f = fb at *
  obtain ⟨name, body, ss⟩ := f
  simp only [FT.val] at *
  have CF := Lib.hid cF; clear cF
  go_enter Tryz.func9, Tryz.ntmps9
  have HB0 := Lib.hid (Blk.new w 24 #[.string name, .int .i64 body, .slice A ss.length c])
  go_wp2
  go_loopw [3, 4] (fun n i wr => ∃ k : Nat, k ≤ ss.length ∧ i = .int .i64 (k : Int) ∧ n = .int .i64 ((spN ss k : Nat) : Int) ∧ Hid (Blk wr w.heap.size 24 #[.string name, .int .i64 body, .slice A ss.length c]) ∧ Hid (Ext w wr)) (fun _ i _ => ss.length - (intOf i).toNat)
  case atStart => exact ⟨0, Nat.zero_le _, rfl, rfl, HB0, Lib.hid (by repeat (first | exact Ext.refl _ | assumption | refine Ext.alloc ?_ _ | refine Ext.drew ?_ | refine Ext.drewN ?_ _ | (refine Ext.setCell ?_ (by simp <;> omega) _) | refine Ext.trans ?_ (by assumption)))⟩
  case round =>
    obtain ⟨k, hk, rfl, rfl, HB, HX⟩ := hrel
    clear HB0
    obtain ⟨f0, f1, f2, fl⟩ := HB.out.c3
    have hsl := spN_le ss k
    by_cases hlt : k < ss.length
    case pos =>
      have hki : (k : Int) < (ss.length : Int) := by omega
      have hrt : RT wr A ss.length ss := HF.out.rt.ext HX.out
      obtain ⟨b, off, rfl, hbw, hcell⟩ := hrt.2.2 (by omega)
      clear hrt
      obtain ⟨_, _, c2, _⟩ := hcell k hlt
      have HS : Hid (spN ss (k + 1) = if (ss.getD k TS.zero).kind = 3 then spN ss k + 1 else spN ss k) := Lib.hid rfl
      generalize (ss.getD k TS.zero).kind = xk at *
      generalize spN ss k = n at *
      clear hcell
      by_cases h3 : xk = 3
      case pos =>
        have HS2 : Hid (spN ss (k + 1) = n + 1) := Lib.hid (by rw [HS.out, if_pos h3])
        subst h3
        clear HS
        go_wp2
        go_roundw
        case rel => exact ⟨k + 1, by omega, by go_num, by rw [HS2.out]; go_num, Lib.hid (HB.out.ext (by repeat (first | exact Ext.refl _ | assumption | refine Ext.alloc ?_ _ | refine Ext.drew ?_ | refine Ext.drewN ?_ _ | (refine Ext.setCell ?_ (by simp <;> omega) _) | refine Ext.trans ?_ (by assumption)))), Lib.hid (HX.out.trans (by repeat (first | exact Ext.refl _ | assumption | refine Ext.alloc ?_ _ | refine Ext.drew ?_ | refine Ext.drewN ?_ _ | (refine Ext.setCell ?_ (by simp <;> omega) _) | refine Ext.trans ?_ (by assumption))))⟩
        case measure => simp [intOf] <;> omega
      case neg =>
        have HS2 : Hid (spN ss (k + 1) = n) := Lib.hid (by rw [HS.out, if_neg h3])
        have e0 : (xk == 3) = false := by simpa using h3
        clear HS h3
        go_wp2
        go_roundw
        case rel => exact ⟨k + 1, by omega, by go_num, by rw [HS2.out], Lib.hid (HB.out.ext (by repeat (first | exact Ext.refl _ | assumption | refine Ext.alloc ?_ _ | refine Ext.drew ?_ | refine Ext.drewN ?_ _ | (refine Ext.setCell ?_ (by simp <;> omega) _) | refine Ext.trans ?_ (by assumption)))), Lib.hid (HX.out.trans (by repeat (first | exact Ext.refl _ | assumption | refine Ext.alloc ?_ _ | refine Ext.drew ?_ | refine Ext.drewN ?_ _ | (refine Ext.setCell ?_ (by simp <;> omega) _) | refine Ext.trans ?_ (by assumption))))⟩
        case measure => simp [intOf] <;> omega
    case neg =>
      obtain rfl : k = ss.length := by omega
      have i1 : ¬ (ss.length : Int) < (ss.length : Int) := by omega
      try simp only at HV
      generalize spN ss ss.length = n at *
      clear hlt
      cases fb with
      | false =>
        have HV2 : Hid (V = false) := Lib.hid (by rw [HV.out]; rfl)
        clear HV
        go_wp2_with (first | (go_at_call 32; refine Calls.mono (CF.out _ (HF.out.ext (HX.out.trans (by repeat (first | exact Ext.refl _ | assumption | refine Ext.alloc ?_ _ | refine Ext.drew ?_ | refine Ext.drewN ?_ _ | (refine Ext.setCell ?_ (by simp <;> omega) _) | refine Ext.trans ?_ (by assumption)))))) ?_; rintro e w1 ⟨rfl, hb⟩))
        go_ret
        exact Ret.mk' (by rw [HV2.out]; rfl) (HX.out.trans (Ext.trans (by repeat (first | exact Ext.refl _ | assumption | refine Ext.alloc ?_ _ | refine Ext.drew ?_ | refine Ext.drewN ?_ _ | (refine Ext.setCell ?_ (by simp <;> omega) _) | refine Ext.trans ?_ (by assumption))) hb))
      | true =>
        rcases (show ((n : Int) ≤ 3) ∨ (¬ (n : Int) ≤ 3 ∧ (8 : Int) < (n : Int)) ∨ (¬ (n : Int) ≤ 3 ∧ ¬ (8 : Int) < (n : Int)) by omega) with h1 | ⟨h1, h2⟩ | ⟨h1, h2⟩
        · have HV2 : Hid (V = true) := Lib.hid (by rw [HV.out, decide_eq_true (show n ≤ 3 by omega)]; rfl)
          clear HV
          go_wp2_with (first | (go_at_call 32; refine Calls.mono (CF.out _ (HF.out.ext (HX.out.trans (by repeat (first | exact Ext.refl _ | assumption | refine Ext.alloc ?_ _ | refine Ext.drew ?_ | refine Ext.drewN ?_ _ | (refine Ext.setCell ?_ (by simp <;> omega) _) | refine Ext.trans ?_ (by assumption)))))) ?_; rintro e w1 ⟨rfl, hb⟩))
          go_ret
          exact Ret.mk' (by rw [HV2.out]; rfl) (HX.out.trans (Ext.trans (by repeat (first | exact Ext.refl _ | assumption | refine Ext.alloc ?_ _ | refine Ext.drew ?_ | refine Ext.drewN ?_ _ | (refine Ext.setCell ?_ (by simp <;> omega) _) | refine Ext.trans ?_ (by assumption))) hb))
        · have HV2 : Hid (V = true) := Lib.hid (by rw [HV.out, decide_eq_true (show 8 < n by omega)]; simp)
          clear HV
          go_wp2_with (first | (go_at_call 32; refine Calls.mono (CF.out _ (HF.out.ext (HX.out.trans (by repeat (first | exact Ext.refl _ | assumption | refine Ext.alloc ?_ _ | refine Ext.drew ?_ | refine Ext.drewN ?_ _ | (refine Ext.setCell ?_ (by simp <;> omega) _) | refine Ext.trans ?_ (by assumption)))))) ?_; rintro e w1 ⟨rfl, hb⟩))
          go_ret
          exact Ret.mk' (by rw [HV2.out]; rfl) (HX.out.trans (Ext.trans (by repeat (first | exact Ext.refl _ | assumption | refine Ext.alloc ?_ _ | refine Ext.drew ?_ | refine Ext.drewN ?_ _ | (refine Ext.setCell ?_ (by simp <;> omega) _) | refine Ext.trans ?_ (by assumption))) hb))
        · have HV2 : Hid (V = false) := Lib.hid (by rw [HV.out, decide_eq_false (show ¬ n ≤ 3 by omega), decide_eq_false (show ¬ 8 < n by omega)]; rfl)
          clear HV
          go_wp2_with (first | (go_at_call 32; refine Calls.mono (CF.out _ (HF.out.ext (HX.out.trans (by repeat (first | exact Ext.refl _ | assumption | refine Ext.alloc ?_ _ | refine Ext.drew ?_ | refine Ext.drewN ?_ _ | (refine Ext.setCell ?_ (by simp <;> omega) _) | refine Ext.trans ?_ (by assumption)))))) ?_; rintro e w1 ⟨rfl, hb⟩))
          go_ret
          exact Ret.mk' (by rw [HV2.out]; show Value.bool (decide _ || decide _) = _; rw [decide_eq_false (show ¬ ((n : Int) ≤ 3) by omega), decide_eq_false (show ¬ ((8 : Int) < (n : Int)) by omega)]; rfl) (HX.out.trans (Ext.trans (by repeat (first | exact Ext.refl _ | assumption | refine Ext.alloc ?_ _ | refine Ext.drew ?_ | refine Ext.drewN ?_ _ | (refine Ext.setCell ?_ (by simp <;> omega) _) | refine Ext.trans ?_ (by assumption))) hb))
end Go.Proofs.YtffafbllgdonlaaGreatDoor
