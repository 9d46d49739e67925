/-
  Walks: the width of a list of a right fount; whether a sort is no space (CheckLeader's own functions).
-/
import Derived.Test.YtffafbllgdonlaaGreatDoorLdMem
import Derived.Test.YtffafbllgdonlaaGreatDoorGF
namespace Go.Proofs.YtffafbllgdonlaaGreatDoor
open Go.RowKit

set_option maxHeartbeats 2000000 in
theorem pFountE_any (f : FT) (A : Option Addr) (c : Nat) (w : World) (hf : FR w A c f) :
    Calls Tryz.prog 48 #[f.val A c] w (Ret (.int .i64 (chk f).2) w) := by
  have cF := fun W h => checkFount_any f A c W h
  unfold ChkV at cF
  have HF := Lib.hid hf; clear hf
  generalize (chk f).2 = z at *
  generalize (chk f).1 = n at *
  obtain ⟨name, body, ss⟩ := f
  simp only [FT.val] at *
  have CF := Lib.hid cF; clear cF
  go_enter Tryz.func48, Tryz.ntmps48
  go_wp2_with (first | (go_at_call 109; refine Calls.mono (CF.out _ (HF.out.ext (by repeat first | exact zx0 _ | assumption | refine zxa ?_ _ | refine zxd ?_ | refine zxn ?_ _ | refine zxs ?_ (by simp <;> omega) _ | refine zxt ?_ (by assumption)))) ?_; rintro e w1 ⟨rfl, hb⟩))
  go_ret
  exact Ret.mk' rfl (Ext.trans (by repeat first | exact zx0 _ | assumption | refine zxa ?_ _ | refine zxd ?_ | refine zxn ?_ _ | refine zxs ?_ (by simp <;> omega) _ | refine zxt ?_ (by assumption)) hb)
set_option maxHeartbeats 2000000 in
theorem pWidth_any (f : FT) (A : Option Addr) (c : Nat) (B : Option Addr) (d : Nat) (zs : List Int) (w : World) (hf : FR w A c f) (h : RI w B zs.length zs) :
    Calls Tryz.prog 51 #[f.val A c, .slice B zs.length d] w (Ret (.int .i64 (widthR f zs).1) w) := by
  have cW := fun W h1 h2 => widthOf_any f A c B d zs W h1 h2
  unfold widthV at cW
  have HF := Lib.hid hf; have HR := Lib.hid h; clear hf h
  generalize (widthR f zs).1 = n at *
  generalize (widthR f zs).2 = z at *
  obtain ⟨name, body, ss⟩ := f
  simp only [FT.val] at *
  have CW := Lib.hid cW; clear cW
  go_enter Tryz.func51, Tryz.ntmps51
  go_wp2_with (first | (go_at_call 111; refine Calls.mono (CW.out _ (HF.out.ext (by repeat first | exact zx0 _ | assumption | refine zxa ?_ _ | refine zxd ?_ | refine zxn ?_ _ | refine zxs ?_ (by simp <;> omega) _ | refine zxt ?_ (by assumption))) (HR.out.ext (by repeat first | exact zx0 _ | assumption | refine zxa ?_ _ | refine zxd ?_ | refine zxn ?_ _ | refine zxs ?_ (by simp <;> omega) _ | refine zxt ?_ (by assumption)))) ?_; rintro e w1 ⟨rfl, hb⟩))
  go_ret
  exact Ret.mk' rfl (Ext.trans (by repeat first | exact zx0 _ | assumption | refine zxa ?_ _ | refine zxd ?_ | refine zxn ?_ _ | refine zxs ?_ (by simp <;> omega) _ | refine zxt ?_ (by assumption)) hb)
set_option maxRecDepth 100000 in
set_option maxHeartbeats 2000000 in
theorem isSp_any (b : Nat) (A : Option Addr) (c : Nat) (ss : List TS) (z : Int) (w : World) (hc : w.cell? ⟨b, 2, none⟩ = some (.slice A ss.length c)) (_hb : b < w.heap.size) (hr : RT w A ss.length ss) (h0 : 0 ≤ z) (h1 : z < ss.length) :
    Calls Tryz.prog 53 #[.int .i64 z, .pointer (some ⟨b, 0, none⟩)] w (Same (.bool (spB ss z)) w) := by
  obtain ⟨k, rfl⟩ : ∃ k : Nat, z = k := ⟨z.toNat, by omega⟩
  have hk : k < ss.length := by omega
  have HE : Hid (spB ss (k : Int) = decide ((ss.getD k TS.zero).kind = 3)) := Lib.hid rfl
  obtain ⟨rb, ro, rfl, hbw, hcell⟩ := hr.2.2 (by omega)
  obtain ⟨_, _, c2, _⟩ := hcell k hk
  clear hcell hr
  generalize spB ss (k : Int) = V at *
  generalize (ss.getD k TS.zero).kind = kd at *
  by_cases h3 : kd = 3
  · subst h3
    have HV : Hid (V = true) := Lib.hid (by rw [HE.out]; rfl)
    clear HE
    go_enter Tryz.func53, Tryz.ntmps53
    go_wp2
    go_ret
    exact ⟨by rw [HV.out]; first | rfl | simp, rfl⟩
  · have HV : Hid (V = false) := Lib.hid (by rw [HE.out]; exact decide_eq_false h3)
    have e0 : (kd == 3) = false := by simpa using h3
    clear HE h3
    go_enter Tryz.func53, Tryz.ntmps53
    go_wp2
    go_ret
    exact ⟨by rw [HV.out]; first | rfl | simp, rfl⟩
set_option maxRecDepth 100000 in
set_option maxHeartbeats 2000000 in
theorem notSp_any (b q : Nat) (A : Option Addr) (c : Nat) (ss : List TS) (z : Int) (w : World) (hq : w.cell? ⟨q, 0, none⟩ = some (.func (.func 53) #[] #[.pointer (some ⟨b, 0, none⟩)])) (_hql : q < w.heap.size)
    (hc : w.cell? ⟨b, 2, none⟩ = some (.slice A ss.length c)) (_hb : b < w.heap.size) (hr : RT w A ss.length ss) (h0 : 0 ≤ z) (h1 : z < ss.length) :
    Calls Tryz.prog 56 #[.int .i64 z, .pointer (some ⟨q, 0, none⟩)] w (Same (.bool (!spB ss z)) w) := by
  have CS := Lib.hid (isSp_any b A c ss z w hc _hb hr h0 h1)
  clear hr h0 h1 hc
  generalize spB ss z = V at *
  go_enter Tryz.func56, Tryz.ntmps56
  go_wp2_with (first | (go_at_call 53; refine Calls.mono CS.out ?_; rintro e w1 ⟨rfl, rfl⟩))
  go_ret
  exact ⟨rfl, rfl⟩
end Go.Proofs.YtffafbllgdonlaaGreatDoor
