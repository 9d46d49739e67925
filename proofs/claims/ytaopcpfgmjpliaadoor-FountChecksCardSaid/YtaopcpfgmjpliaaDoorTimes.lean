/-
  Walk: Times, how often a case suffices for a need.
-/
import Derived.Test.YtaopcpfgmjpliaaDoorBase
namespace Go.Proofs.YtaopcpfgmjpliaaDoor
open Go.RowKit

def timesTo (cs ns : List Int) : Nat → Int × Nat
  | 0 => (-1, 0)
  | k + 1 => if 0 < ns.getD k 0 ∧ ((timesTo cs ns k).1 < 0 ∨ cs.getD k 0 / ns.getD k 0 < (timesTo cs ns k).1) then (cs.getD k 0 / ns.getD k 0, k) else timesTo cs ns k
def timesR (f : FT) (cs ns : List Int) : Int × Int × Int :=
  if caseErr2 f cs ns ≠ 0 then (0, 0, caseErr2 f cs ns) else if (timesTo cs ns ns.length).1 < 0 then (0, 0, 11) else ((timesTo cs ns ns.length).1, ((timesTo cs ns ns.length).2 : Int), 0)
def timesV (f : FT) (cs ns : List Int) : Value := .tuple #[.int .i64 (timesR f cs ns).1, .int .i64 (timesR f cs ns).2.1, .int .i64 (timesR f cs ns).2.2]
set_option maxHeartbeats 2000000 in
theorem times_any (f : FT) (A : Option Addr) (c : Nat) (X : Option Addr) (cx : Nat) (Y : Option Addr) (cy : Nat) (xs ys : List Int) (w : World) (hf : FR w A c f) (hx : RI w X xs.length xs) (hy : RI w Y ys.length ys) :
    Calls Tryd.prog 17 #[f.val A c, .slice X xs.length cx, .slice Y ys.length cy] w (Ret (timesV f xs ys) w) := by
  have cC := fun Z W h1 h2 => check_any f A c Z 2 2 [⟨X, cx, xs⟩, ⟨Y, cy, ys⟩] W h1 h2
  rw [checkErr_two] at cC
  simp only at cC
  have HF := Lib.hid hf; have HX := Lib.hid hx; have HY := Lib.hid hy; clear hf hx hy
  have HV : Hid (timesV f xs ys = .tuple #[.int .i64 (timesR f xs ys).1, .int .i64 (timesR f xs ys).2.1, .int .i64 (timesR f xs ys).2.2]) := Lib.hid rfl
  by_cases hz : caseErr2 f xs ys = 0
  · obtain ⟨h1, h2⟩ := case2_zero hz
    obtain ⟨h3, h4⟩ := case_zero h1
    obtain ⟨l1, b1⟩ := counts_zero h4
    obtain ⟨l2, b2⟩ := counts_zero h2
    obtain ⟨_, n1, n2, _⟩ := chk_zero h3
    have hxy : xs.length = ys.length := by omega
    have hx120 : ys.length ≤ 120 := by omega
    have HLL := Lib.hid hxy; clear hxy
    have HB1 := Lib.hid b1; have HB2 := Lib.hid b2
    have HR : Hid (timesR f xs ys = if (timesTo xs ys ys.length).1 < 0 then (0, 0, 11) else ((timesTo xs ys ys.length).1, ((timesTo xs ys ys.length).2 : Int), 0)) := Lib.hid (by unfold timesR; rw [if_neg (by rw [hz]; simp)])
    rw [hz] at cC
    clear b1 b2 h1 h2 h3 h4 hz l1 l2 n1 n2
    generalize timesV f xs ys = V at *
    generalize timesR f xs ys = r at *
    obtain ⟨name, body, ss⟩ := f
    simp only [FT.val] at *
    have CC := Lib.hid cC; clear cC
    go_enter Tryd.func17, Tryd.ntmps17
    go_wp2_with (first | (go_at_call 33; refine Calls.mono (CC.out _ _ ?_ ?_) ?_; (exact HF.out.ext (by repeat (first | exact Ext.refl _ | assumption | refine Ext.alloc ?_ _ | refine Ext.drew ?_ | refine Ext.drewN ?_ _ | (refine Ext.setCell ?_ (by simp <;> omega) _) | refine Ext.trans ?_ (by assumption)))); (exact RL.two (Blk.new1 _ _ _ _) (HX.out.ext (by repeat (first | exact Ext.refl _ | assumption | refine Ext.alloc ?_ _ | refine Ext.drew ?_ | refine Ext.drewN ?_ _ | (refine Ext.setCell ?_ (by simp <;> omega) _) | refine Ext.trans ?_ (by assumption)))) (HY.out.ext (by repeat (first | exact Ext.refl _ | assumption | refine Ext.alloc ?_ _ | refine Ext.drew ?_ | refine Ext.drewN ?_ _ | (refine Ext.setCell ?_ (by simp <;> omega) _) | refine Ext.trans ?_ (by assumption))))); rintro e w1 ⟨rfl, hb⟩))
    have HXE := Lib.hid (show Ext w w1 from Ext.trans (by repeat (first | exact Ext.refl _ | assumption | refine Ext.alloc ?_ _ | refine Ext.drew ?_ | refine Ext.drewN ?_ _ | (refine Ext.setCell ?_ (by simp <;> omega) _) | refine Ext.trans ?_ (by assumption))) hb)
    clear hb
    go_loop [10, 11, 24] (fun t s i => ∃ k : Nat, k ≤ ys.length ∧ i = .int .i64 k ∧ t = .int .i64 (timesTo xs ys k).1 ∧ s = .int .i64 ((timesTo xs ys k).2 : Int)) (fun _ _ i => ys.length - (intOf i).toNat)
    case atStart => exact ⟨0, Nat.zero_le _, rfl, rfl, rfl⟩
    case round =>
      obtain ⟨k, hk, rfl, rfl, rfl⟩ := hrel
      by_cases hlt : k < ys.length
      · have hkx0 : k < xs.length := by have := HLL.out; omega
        obtain ⟨b, off, rfl, hbw, hcell⟩ := (HX.out.ext HXE.out).2.2 (by omega)
        obtain ⟨b', off', rfl, hbw', hcell'⟩ := (HY.out.ext HXE.out).2.2 (by omega)
        have c1 := hcell k (by omega)
        have c2 := hcell' k hlt
        have hki : (k : Int) < (ys.length : Int) := by omega
        have hkx : (k : Int) < (xs.length : Int) := by omega
        obtain ⟨x1, x2⟩ := HB1.out k (by omega)
        obtain ⟨y1, y2⟩ := HB2.out k (by omega)
        have HN : Hid (timesTo xs ys (k + 1) = if 0 < ys.getD k 0 ∧ ((timesTo xs ys k).1 < 0 ∨ xs.getD k 0 / ys.getD k 0 < (timesTo xs ys k).1) then (xs.getD k 0 / ys.getD k 0, k) else timesTo xs ys k) := Lib.hid rfl
        generalize hp : timesTo xs ys k = p at *
        obtain ⟨t, s⟩ := p
        simp only at HN ⊢
        generalize xs.getD k 0 = x at *
        generalize ys.getD k 0 = y at *
        clear hcell hcell' hp
        by_cases hy : 0 < y
        · have hq0 : x.tdiv y = x / y := Int.tdiv_eq_ediv_of_nonneg x1
          have hq1 : 0 ≤ x / y := Int.ediv_nonneg x1 y1
          have hq2 : x / y ≤ 1000000 := Int.le_trans (Int.ediv_le_self _ x1) x2
          have ey : (y == 0) = false := by simp; omega
          by_cases ht : t < 0
          · have HN' : Hid (timesTo xs ys (k + 1) = (x / y, k)) := Lib.hid (by rw [HN.out, if_pos ⟨hy, .inl ht⟩])
            clear HN
            go_wp2
            go_round
            case rel => exact ⟨k + 1, by omega, by go_num, by rw [HN'.out], by rw [HN'.out]⟩
            case measure => simp [intOf]; omega
          · by_cases hq : x / y < t
            · have HN' : Hid (timesTo xs ys (k + 1) = (x / y, k)) := Lib.hid (by rw [HN.out, if_pos ⟨hy, .inr hq⟩])
              clear HN
              go_wp2
              go_round
              case rel => exact ⟨k + 1, by omega, by go_num, by rw [HN'.out], by rw [HN'.out]⟩
              case measure => simp [intOf]; omega
            · have HN' : Hid (timesTo xs ys (k + 1) = (t, s)) := Lib.hid (by rw [HN.out, if_neg (by rintro ⟨_, h | h⟩; exact ht h; exact hq h)])
              clear HN
              go_wp2
              go_round
              case rel => exact ⟨k + 1, by omega, by go_num, by rw [HN'.out], by rw [HN'.out]⟩
              case measure => simp [intOf]; omega
        · have HN' : Hid (timesTo xs ys (k + 1) = (t, s)) := Lib.hid (by rw [HN.out, if_neg (fun h => hy h.1)])
          clear HN
          go_wp2
          go_round
          case rel => exact ⟨k + 1, by omega, by go_num, by rw [HN'.out], by rw [HN'.out]⟩
          case measure => simp [intOf]; omega
      · obtain rfl : k = ys.length := by omega
        generalize hp : timesTo xs ys ys.length = p at *
        obtain ⟨t, s⟩ := p
        simp only at HR ⊢
        clear hp
        by_cases ht : t < 0
        · have HR' : Hid (r = (0, 0, 11)) := Lib.hid (by rw [HR.out, if_pos ht])
          clear HR
          go_wp2
          go_ret3
          exact Ret.mk' (by rw [HV.out, HR'.out]; rfl) (HXE.out.trans (by repeat (first | exact Ext.refl _ | assumption | refine Ext.alloc ?_ _ | refine Ext.drew ?_ | refine Ext.drewN ?_ _ | (refine Ext.setCell ?_ (by simp <;> omega) _) | refine Ext.trans ?_ (by assumption))))
        · have HR' : Hid (r = (t, (s : Int), 0)) := Lib.hid (by rw [HR.out, if_neg ht])
          clear HR
          go_wp2
          go_ret3
          exact Ret.mk' (by rw [HV.out, HR'.out]; rfl) (HXE.out.trans (by repeat (first | exact Ext.refl _ | assumption | refine Ext.alloc ?_ _ | refine Ext.drew ?_ | refine Ext.drewN ?_ _ | (refine Ext.setCell ?_ (by simp <;> omega) _) | refine Ext.trans ?_ (by assumption))))
  · have HR : Hid (timesR f xs ys = (0, 0, caseErr2 f xs ys)) := Lib.hid (by unfold timesR; rw [if_pos hz])
    generalize timesV f xs ys = V at *
    generalize timesR f xs ys = r at *
    generalize caseErr2 f xs ys = z at *
    have e0 : (z != 0) = true := by simpa using hz
    clear hz
    obtain ⟨name, body, ss⟩ := f
    simp only [FT.val] at *
    have CC := Lib.hid cC; clear cC
    go_enter Tryd.func17, Tryd.ntmps17
    go_wp2_with (first | (go_at_call 33; refine Calls.mono (CC.out _ _ ?_ ?_) ?_; (exact HF.out.ext (by repeat (first | exact Ext.refl _ | assumption | refine Ext.alloc ?_ _ | refine Ext.drew ?_ | refine Ext.drewN ?_ _ | (refine Ext.setCell ?_ (by simp <;> omega) _) | refine Ext.trans ?_ (by assumption)))); (exact RL.two (Blk.new1 _ _ _ _) (HX.out.ext (by repeat (first | exact Ext.refl _ | assumption | refine Ext.alloc ?_ _ | refine Ext.drew ?_ | refine Ext.drewN ?_ _ | (refine Ext.setCell ?_ (by simp <;> omega) _) | refine Ext.trans ?_ (by assumption)))) (HY.out.ext (by repeat (first | exact Ext.refl _ | assumption | refine Ext.alloc ?_ _ | refine Ext.drew ?_ | refine Ext.drewN ?_ _ | (refine Ext.setCell ?_ (by simp <;> omega) _) | refine Ext.trans ?_ (by assumption))))); rintro e w1 ⟨rfl, hb⟩))
    go_ret3
    exact Ret.mk' (by rw [HV.out, HR.out]; rfl) (by repeat (first | exact Ext.refl _ | assumption | refine Ext.alloc ?_ _ | refine Ext.drew ?_ | refine Ext.drewN ?_ _ | (refine Ext.setCell ?_ (by simp <;> omega) _) | refine Ext.trans ?_ (by assumption)))
end Go.Proofs.YtaopcpfgmjpliaaDoor
