/-
  Walk: the document's examples hold (awake).
-/
import Derived.Test.YtaopcpfgmjpliaaDoorPrint
import Derived.Test.YtaopcpfgmjpliaaDoorBill
import Derived.Test.YtaopcpfgmjpliaaDoorFew
namespace Go.Proofs.YtaopcpfgmjpliaaDoor
open Go.RowKit

theorem ri_lit {w : World} {T : TypeId} (zs : List Int) (hl : zs.length ≤ 1000000) : RI (w.alloc (.cells (zs.map (Value.int .i64)).toArray T)) (some ⟨w.heap.size, 0, none⟩) zs.length zs :=
  ⟨rfl, by omega, fun _ => ⟨w.heap.size, 0, rfl, (Blk.new w T _).lt, fun k hk => by
    rw [Nat.zero_add]
    refine (Blk.new w T _).cell k _ ?_
    simp [List.getD_eq_getElem?_getD, hk]⟩⟩
theorem ri_lit1 {w : World} {o : Obj} {T : TypeId} (zs : List Int) (hl : zs.length ≤ 1000000) : RI ((w.alloc o).alloc (.cells (zs.map (Value.int .i64)).toArray T)) (some ⟨w.heap.size + 1, 0, none⟩) zs.length zs := by
  have h := ri_lit (w := w.alloc o) (T := T) zs hl
  rwa [World.size_alloc] at h
theorem dec_lt {u : Nat} (h : u < 10) : Lib.decDigits u = [UInt8.ofNat (48 + u)] := by unfold Lib.decDigits; rw [dif_pos h]
theorem dec_ge {u : Nat} (h : 10 ≤ u) : Lib.decDigits u = Lib.decDigits (u / 10) ++ [UInt8.ofNat (48 + u % 10)] := by
  conv => lhs; unfold Lib.decDigits
  rw [dif_neg (by omega)]
theorem dec_two (u : Nat) (h : 10 ≤ u ∧ u < 100) : Lib.decDigits u = [UInt8.ofNat (48 + u / 10), UInt8.ofNat (48 + u % 10)] := by
  rw [dec_ge h.1, dec_lt (by omega)]; rfl
theorem dec_three (u : Nat) (h : 100 ≤ u ∧ u < 1000) : Lib.decDigits u = [UInt8.ofNat (48 + u / 10 / 10), UInt8.ofNat (48 + u / 10 % 10), UInt8.ofNat (48 + u % 10)] := by
  rw [dec_ge (by omega), dec_two _ (by omega)]; rfl
theorem itoa_nat (u : Nat) : Lib.itoa (u : Int) = Lib.decDigits u := by unfold Lib.itoa; rw [if_neg (by omega), Int.toNat_natCast]
theorem num10 : numW 10 = ⟨#[49, 48]⟩ := by unfold numW; rw [show (10 : Int) = ((10 : Nat) : Int) from rfl, itoa_nat, dec_two 10 (by decide)]; rfl
theorem num300 : numW 300 = ⟨#[51, 48, 48]⟩ := by unfold numW; rw [show (300 : Int) = ((300 : Nat) : Int) from rfl, itoa_nat, dec_three 300 (by decide)]; rfl
theorem num330 : numW 330 = ⟨#[51, 51, 48]⟩ := by unfold numW; rw [show (330 : Int) = ((330 : Nat) : Int) from rfl, itoa_nat, dec_three 330 (by decide)]; rfl
theorem num360 : numW 360 = ⟨#[51, 54, 48]⟩ := by unfold numW; rw [show (360 : Int) = ((360 : Nat) : Int) from rfl, itoa_nat, dec_three 360 (by decide)]; rfl
theorem num200 : numW 200 = ⟨#[50, 48, 48]⟩ := by unfold numW; rw [show (200 : Int) = ((200 : Nat) : Int) from rfl, itoa_nat, dec_three 200 (by decide)]; rfl
theorem num120 : numW 120 = ⟨#[49, 50, 48]⟩ := by unfold numW; rw [show (120 : Int) = ((120 : Nat) : Int) from rfl, itoa_nat, dec_three 120 (by decide)]; rfl
theorem roman_chk : (chk roman).2 = 0 := by kernel_rfl
theorem roman_width : widthV roman [0, 3, 4, 1, 2] = .tuple #[.int .i64 1310, .int .i64 0] := by kernel_rfl
theorem roman_text : textV roman [0, 3, 4, 1, 2] = .tuple #[.string ⟨#[97, 32, 98, 102, 105]⟩, .int .i64 0] := by kernel_rfl
theorem roman_times : timesV roman [3, 2, 0, 5, 5] [1, 1, 0, 2, 0] = .tuple #[.int .i64 2, .int .i64 1, .int .i64 0] := by kernel_rfl
theorem roman_bill : billR roman [3, 2, 1, 0, 0] 10 = ([5, 3, 2, 0, 0], 0) := by kernel_rfl
theorem roman_len : roman.sorts.length = 5 := rfl
theorem roman_print : fountTo roman 5 = [102, 111, 117, 110, 116, 32, 114, 111, 109, 32, 49, 48, 10, 108, 101, 116, 116, 101, 114, 32, 97, 32, 97, 32, 51, 48, 48, 10, 108, 101, 116, 116, 101, 114, 32, 98, 32, 98, 32, 51, 51, 48, 10, 108, 105, 103, 97, 116, 117, 114, 101, 32, 102, 105, 32, 102, 105, 32, 51, 54, 48, 10, 115, 112, 97, 99, 101, 32, 116, 104, 105, 99, 107, 32, 50, 48, 48, 10, 115, 112, 97, 99, 101, 32, 116, 104, 105, 110, 32, 49, 50, 48, 10] := by
  have h0 : lineW (headW roman) = [102, 111, 117, 110, 116, 32, 114, 111, 109, 32, 49, 48, 10] := by
    show lineW [⟨#[102, 111, 117, 110, 116]⟩, _, numW 10] = _
    rw [num10]; rfl
  have h1 : lineW (sortW (roman.sorts.getD 0 TS.zero)) = [108, 101, 116, 116, 101, 114, 32, 97, 32, 97, 32, 51, 48, 48, 10] := by
    show lineW [_, _, _, numW 300] = _
    rw [num300]; rfl
  have h2 : lineW (sortW (roman.sorts.getD 1 TS.zero)) = [108, 101, 116, 116, 101, 114, 32, 98, 32, 98, 32, 51, 51, 48, 10] := by
    show lineW [_, _, _, numW 330] = _
    rw [num330]; rfl
  have h3 : lineW (sortW (roman.sorts.getD 2 TS.zero)) = [108, 105, 103, 97, 116, 117, 114, 101, 32, 102, 105, 32, 102, 105, 32, 51, 54, 48, 10] := by
    show lineW [_, _, _, numW 360] = _
    rw [num360]; rfl
  have h4 : lineW (sortW (roman.sorts.getD 3 TS.zero)) = [115, 112, 97, 99, 101, 32, 116, 104, 105, 99, 107, 32, 50, 48, 48, 10] := by
    show lineW [_, _, numW 200] = _
    rw [num200]; rfl
  have h5 : lineW (sortW (roman.sorts.getD 4 TS.zero)) = [115, 112, 97, 99, 101, 32, 116, 104, 105, 110, 32, 49, 50, 48, 10] := by
    show lineW [_, _, numW 120] = _
    rw [num120]; rfl
  rw [fountTo, fountTo, fountTo, fountTo, fountTo, fountTo, h0, h1, h2, h3, h4, h5]; rfl

set_option maxRecDepth 100000 in
set_option maxHeartbeats 8000000 in
theorem awake_any (w : World) (hT : Tabs w) : Calls Tryd.prog 4 #[] w (Ret (.bool true) w) := by
  have cW := fun A c B d W h1 h2 => widthOf_any roman A c B d [0, 3, 4, 1, 2] W h1 h2
  have cX := fun A c B d W h1 h2 => textOf_any roman A c B d [0, 3, 4, 1, 2] W h1 h2
  have cT := fun A c B d B' d' W h1 h2 h3 => times_any roman A c B d B' d' [3, 2, 0, 5, 5] [1, 1, 0, 2, 0] W h1 h2 h3
  have cB := fun A c B d W h1 h2 => billFor_any roman A c B d [3, 2, 1, 0, 0] 10 W h1 h2 (fun _ => by decide)
  have cP := fun A c W h1 h2 => print_any roman A c W h1 h2
  rw [roman_width] at cW
  rw [roman_text] at cX
  rw [roman_times] at cT
  rw [roman_bill] at cB
  have hfv : fountV roman = .tuple #[.string ⟨(fountTo roman 5).toArray⟩, .int .i64 0] := by
    unfold fountV fountR; rw [if_neg (by rw [roman_chk]; simp)]; rfl
  rw [hfv, roman_print] at cP
  have cI := fun A c B d W h1 h2 => ints_any A B c d [5, 3, 2, 0, 0] [5, 3, 2, 0, 0] W h1 h2
  rw [decide_eq_true rfl] at cI
  have CR := Lib.hid (fun W => roman_any W)
  generalize roman = r at *
  have CW := Lib.hid cW; have CX := Lib.hid cX; have CT := Lib.hid cT; have CB := Lib.hid cB; have CP := Lib.hid cP; have CI := Lib.hid cI; have HT := Lib.hid hT
  clear cW cX cT cB cP cI hT hfv
  have hx := Ext.refl w
  go_enter Tryd.func4, Tryd.ntmps4
  go_wp2_with (first | (go_at_call 15; refine Calls.mono (CR.out _) ?_; rintro e w1 ⟨A1, c1, rfl, hF, hb⟩; have HF := Lib.hid hF; clear hF; (try (have hz : Ext w5 w1 := Ext.trans (Ext.trans hs5 (by repeat (first | exact Ext.refl _ | assumption | refine Ext.alloc ?_ _ | refine Ext.drew ?_ | refine Ext.drewN ?_ _ | (refine Ext.setCell ?_ (by simp <;> omega) _) | refine Ext.trans ?_ (by assumption)))) hb; clear hs5; have hs5 := hz; clear hz)); have hy : Ext w w1 := Ext.trans (by repeat (first | exact Ext.refl _ | assumption | refine Ext.alloc ?_ _ | refine Ext.drew ?_ | refine Ext.drewN ?_ _ | (refine Ext.setCell ?_ (by simp <;> omega) _) | refine Ext.trans ?_ (by assumption))) hb; clear hx; have hx := hy; clear hy hb) | (go_at_call 14; refine Calls.mono (CW.out _ _ _ _ _ ?_ ?_) ?_; (exact HF.out.ext (by repeat (first | exact Ext.refl _ | assumption | refine Ext.alloc ?_ _ | refine Ext.drew ?_ | refine Ext.drewN ?_ _ | (refine Ext.setCell ?_ (by simp <;> omega) _) | refine Ext.trans ?_ (by assumption)))); (exact ri_lit [0, 3, 4, 1, 2] (by decide)); rintro e w2 ⟨rfl, hb⟩; have hy : Ext w w2 := Ext.trans (by repeat (first | exact Ext.refl _ | assumption | refine Ext.alloc ?_ _ | refine Ext.drew ?_ | refine Ext.drewN ?_ _ | (refine Ext.setCell ?_ (by simp <;> omega) _) | refine Ext.trans ?_ (by assumption))) hb; clear hx; have hx := hy; clear hy hb) | (go_at_call 16; refine Calls.mono (CX.out _ _ _ _ _ ?_ ?_) ?_; (exact HF.out.ext (by repeat (first | exact Ext.refl _ | assumption | refine Ext.alloc ?_ _ | refine Ext.drew ?_ | refine Ext.drewN ?_ _ | (refine Ext.setCell ?_ (by simp <;> omega) _) | refine Ext.trans ?_ (by assumption)))); (exact ri_lit [0, 3, 4, 1, 2] (by decide)); rintro e w2 ⟨rfl, hb⟩; have hy : Ext w w2 := Ext.trans (by repeat (first | exact Ext.refl _ | assumption | refine Ext.alloc ?_ _ | refine Ext.drew ?_ | refine Ext.drewN ?_ _ | (refine Ext.setCell ?_ (by simp <;> omega) _) | refine Ext.trans ?_ (by assumption))) hb; clear hx; have hx := hy; clear hy hb) | (go_at_call 17; refine Calls.mono (CT.out _ _ _ _ _ _ _ ?_ ?_ ?_) ?_; (exact HF.out.ext (by repeat (first | exact Ext.refl _ | assumption | refine Ext.alloc ?_ _ | refine Ext.drew ?_ | refine Ext.drewN ?_ _ | (refine Ext.setCell ?_ (by simp <;> omega) _) | refine Ext.trans ?_ (by assumption)))); (exact (ri_lit [3, 2, 0, 5, 5] (by decide)).ext (by repeat (first | exact Ext.refl _ | assumption | refine Ext.alloc ?_ _ | refine Ext.drew ?_ | refine Ext.drewN ?_ _ | (refine Ext.setCell ?_ (by simp <;> omega) _) | refine Ext.trans ?_ (by assumption)))); (exact ri_lit1 [1, 1, 0, 2, 0] (by decide)); rintro e w2 ⟨rfl, hb⟩; have hy : Ext w w2 := Ext.trans (by repeat (first | exact Ext.refl _ | assumption | refine Ext.alloc ?_ _ | refine Ext.drew ?_ | refine Ext.drewN ?_ _ | (refine Ext.setCell ?_ (by simp <;> omega) _) | refine Ext.trans ?_ (by assumption))) hb; clear hx; have hx := hy; clear hy hb) | (go_at_call 18; refine Calls.mono (CB.out _ _ _ _ _ ?_ ?_) ?_; (exact HF.out.ext (by repeat (first | exact Ext.refl _ | assumption | refine Ext.alloc ?_ _ | refine Ext.drew ?_ | refine Ext.drewN ?_ _ | (refine Ext.setCell ?_ (by simp <;> omega) _) | refine Ext.trans ?_ (by assumption)))); (exact ri_lit [3, 2, 1, 0, 0] (by decide)); rintro e w5 ⟨B, cb, rfl, hS, hb⟩; have HS := Lib.hid hS.ri; clear hS; have hs5 := Ext.refl w5; have hy : Ext w w5 := Ext.trans (by repeat (first | exact Ext.refl _ | assumption | refine Ext.alloc ?_ _ | refine Ext.drew ?_ | refine Ext.drewN ?_ _ | (refine Ext.setCell ?_ (by simp <;> omega) _) | refine Ext.trans ?_ (by assumption))) hb; clear hx; have hx := hy; clear hy hb) | (go_at_call 19; refine Calls.mono (CP.out _ _ _ ?_ ?_) ?_; (exact HF.out.ext (by repeat (first | exact Ext.refl _ | assumption | refine Ext.alloc ?_ _ | refine Ext.drew ?_ | refine Ext.drewN ?_ _ | (refine Ext.setCell ?_ (by simp <;> omega) _) | refine Ext.trans ?_ (by assumption)))); (exact HT.out.ext (Ext.trans hx (by repeat (first | exact Ext.refl _ | assumption | refine Ext.alloc ?_ _ | refine Ext.drew ?_ | refine Ext.drewN ?_ _ | (refine Ext.setCell ?_ (by simp <;> omega) _) | refine Ext.trans ?_ (by assumption))))); rintro e w6 ⟨rfl, hb⟩; (try (have hz : Ext w5 w6 := Ext.trans (Ext.trans hs5 (by repeat (first | exact Ext.refl _ | assumption | refine Ext.alloc ?_ _ | refine Ext.drew ?_ | refine Ext.drewN ?_ _ | (refine Ext.setCell ?_ (by simp <;> omega) _) | refine Ext.trans ?_ (by assumption)))) hb; clear hs5; have hs5 := hz; clear hz)); have hy : Ext w w6 := Ext.trans (by repeat (first | exact Ext.refl _ | assumption | refine Ext.alloc ?_ _ | refine Ext.drew ?_ | refine Ext.drewN ?_ _ | (refine Ext.setCell ?_ (by simp <;> omega) _) | refine Ext.trans ?_ (by assumption))) hb; clear hx; have hx := hy; clear hy hb) | (go_at_call 12; refine Calls.mono (CI.out _ _ _ _ _ ?_ ?_) ?_; (exact HS.out.ext (Ext.trans hs5 (by repeat (first | exact Ext.refl _ | assumption | refine Ext.alloc ?_ _ | refine Ext.drew ?_ | refine Ext.drewN ?_ _ | (refine Ext.setCell ?_ (by simp <;> omega) _) | refine Ext.trans ?_ (by assumption))))); (exact ri_lit [5, 3, 2, 0, 0] (by decide)); rintro e w7 ⟨rfl, hb⟩; have hy : Ext w w7 := Ext.trans (by repeat (first | exact Ext.refl _ | assumption | refine Ext.alloc ?_ _ | refine Ext.drew ?_ | refine Ext.drewN ?_ _ | (refine Ext.setCell ?_ (by simp <;> omega) _) | refine Ext.trans ?_ (by assumption))) hb; clear hx; have hx := hy; clear hy hb))
  go_ret
  exact Ret.mk' rfl (by repeat (first | exact Ext.refl _ | assumption | refine Ext.alloc ?_ _ | refine Ext.drew ?_ | refine Ext.drewN ?_ _ | (refine Ext.setCell ?_ (by simp <;> omega) _) | refine Ext.trans ?_ (by assumption)))
end Go.Proofs.YtaopcpfgmjpliaaDoor
