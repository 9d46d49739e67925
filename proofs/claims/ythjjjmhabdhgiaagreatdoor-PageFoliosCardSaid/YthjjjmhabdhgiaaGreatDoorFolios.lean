/-
  Walk: PageFolios returns true.
-/
import Derived.Test.YthjjjmhabdhgiaaGreatDoorAwake5
import Derived.Test.YthjjjmhabdhgiaaGreatDoorGE
namespace Go.Proofs.YthjjjmhabdhgiaaGreatDoor.folios
open Go.RowKit
set_option maxRecDepth 100000 in
set_option maxHeartbeats 8000000 in
theorem walk (n : Int) (rom : Bool) (s : ByteArray) (w : World) (hn : I64 n) (hs : s.size ≤ maxLen) (hT : Tab5 w) :
    Calls Tryz.prog 3 #[.int .i64 n, .bool rom, .string s] w (Ret (.bool true) w) := by
  have CA := Lib.hid (fun W h => awake5_any W h)
  have HT := Lib.hid hT; have HTF := Lib.hid hT.fig; clear hT
  unfold maxLen at hs
  by_cases h30 : 30 < s.size
  case pos =>
    have i1 : (30 : Int) < (s.size : Int) := by omega
    go_enter Tryz.func3, Tryz.ntmps3
    go_wp2_with (first | (go_at_call 10; refine Calls.mono (CA.out _ (HT.out.ext (by repeat (first | exact Ext.refl _ | assumption | refine Ext.alloc ?_ _ | refine Ext.drew ?_ | refine Ext.drewN ?_ _ | (refine Ext.setCell ?_ (by simp <;> omega) _) | refine Ext.trans ?_ (by assumption))))) ?_; rintro e w1 ⟨rfl, hb1⟩; have HX1 : Hid (Ext w w1) := Lib.hid (Ext.trans (by repeat (first | exact Ext.refl _ | assumption | refine Ext.alloc ?_ _ | refine Ext.drew ?_ | refine Ext.drewN ?_ _ | (refine Ext.setCell ?_ (by simp <;> omega) _) | refine Ext.trans ?_ (by assumption))) hb1); clear hb1))
    go_ret
    exact Ret.mk' rfl (HX1.out.trans (by repeat (first | exact Ext.refl _ | assumption | refine Ext.alloc ?_ _ | refine Ext.drew ?_ | refine Ext.drewN ?_ _ | (refine Ext.setCell ?_ (by simp <;> omega) _) | refine Ext.trans ?_ (by assumption))))
  case neg =>
  have i1 : ¬ (30 : Int) < (s.size : Int) := by omega
  have cP := fun W h => parseFolio_any s W (by omega) h
  have cR := fun W => rParseFolio_any s W (by omega)
  have cF := fun W h => folio_any n rom W hn h
  unfold parV at cP cR
  unfold folV at cF
  generalize parR s.data.toList = pr at *
  obtain ⟨px, pb, pz⟩ := pr
  simp only at cP cR
  by_cases hr : 1 ≤ n ∧ n ≤ 3999
  case neg =>
    have hE : folL n rom = ([], 2) := by unfold folL; rw [if_pos hr]
    rw [hE] at cF
    have CP := Lib.hid cP; have CR := Lib.hid cR; have CF := Lib.hid cF; clear cP cR cF hE
    go_enter Tryz.func3, Tryz.ntmps3
    go_wp2_with (first | (go_at_call 10; refine Calls.mono (CA.out _ (HT.out.ext (by repeat (first | exact Ext.refl _ | assumption | refine Ext.alloc ?_ _ | refine Ext.drew ?_ | refine Ext.drewN ?_ _ | (refine Ext.setCell ?_ (by simp <;> omega) _) | refine Ext.trans ?_ (by assumption))))) ?_; rintro e w1 ⟨rfl, hb1⟩; have HX1 : Hid (Ext w w1) := Lib.hid (Ext.trans (by repeat (first | exact Ext.refl _ | assumption | refine Ext.alloc ?_ _ | refine Ext.drew ?_ | refine Ext.drewN ?_ _ | (refine Ext.setCell ?_ (by simp <;> omega) _) | refine Ext.trans ?_ (by assumption))) hb1); clear hb1) | (go_at_call 11; refine Calls.mono (CP.out _ (HT.out.ext (HX1.out.trans (by repeat (first | exact Ext.refl _ | assumption | refine Ext.alloc ?_ _ | refine Ext.drew ?_ | refine Ext.drewN ?_ _ | (refine Ext.setCell ?_ (by simp <;> omega) _) | refine Ext.trans ?_ (by assumption)))))) ?_; rintro e w2 ⟨rfl, hb2⟩; have HX2 : Hid (Ext w w2) := Lib.hid (HX1.out.trans (Ext.trans (by repeat (first | exact Ext.refl _ | assumption | refine Ext.alloc ?_ _ | refine Ext.drew ?_ | refine Ext.drewN ?_ _ | (refine Ext.setCell ?_ (by simp <;> omega) _) | refine Ext.trans ?_ (by assumption))) hb2)); clear hb2) | (go_at_call 12; refine Calls.mono (CR.out _) ?_; rintro e w3 ⟨rfl, hb3⟩; have HX3 : Hid (Ext w w3) := Lib.hid (HX2.out.trans (Ext.trans (by repeat (first | exact Ext.refl _ | assumption | refine Ext.alloc ?_ _ | refine Ext.drew ?_ | refine Ext.drewN ?_ _ | (refine Ext.setCell ?_ (by simp <;> omega) _) | refine Ext.trans ?_ (by assumption))) hb3)); clear hb3) | (go_at_call 13; refine Calls.mono (CF.out _ (HTF.out.ext (HX3.out.trans (by repeat (first | exact Ext.refl _ | assumption | refine Ext.alloc ?_ _ | refine Ext.drew ?_ | refine Ext.drewN ?_ _ | (refine Ext.setCell ?_ (by simp <;> omega) _) | refine Ext.trans ?_ (by assumption)))))) ?_; rintro e w4 ⟨rfl, hb4⟩; have HX4 : Hid (Ext w w4) := Lib.hid (HX3.out.trans (Ext.trans (by repeat (first | exact Ext.refl _ | assumption | refine Ext.alloc ?_ _ | refine Ext.drew ?_ | refine Ext.drewN ?_ _ | (refine Ext.setCell ?_ (by simp <;> omega) _) | refine Ext.trans ?_ (by assumption))) hb4)); clear hb4) | (go_at_call 14; refine Calls.mono (bWithin_yes _ _ _ _ ?_) ?_; (omega); rintro e w1 ⟨rfl, rfl⟩) | (go_at_call 14; refine Calls.mono (bWithin_no _ _ _ _ ?_) ?_; (omega); rintro e w1 ⟨rfl, rfl⟩))
    go_ret
    exact Ret.mk' rfl (HX4.out.trans (by repeat (first | exact Ext.refl _ | assumption | refine Ext.alloc ?_ _ | refine Ext.drew ?_ | refine Ext.drewN ?_ _ | (refine Ext.setCell ?_ (by simp <;> omega) _) | refine Ext.trans ?_ (by assumption))))
  case pos =>
  obtain ⟨k, rfl⟩ : ∃ k : Nat, n = k := ⟨n.toNat, by omega⟩
  have hE : folL (k : Int) rom = (rFolL k rom, 0) := by
    unfold folL rFolL
    rw [if_neg (by omega), Int.toNat_natCast]
    cases rom <;> rfl
  have hB := parR_back hr rom
  rw [hE] at hB cF
  have hlen : (rFolL k rom).length ≤ 1000 := by
    unfold rFolL
    cases rom with
    | true => rw [if_pos rfl]; have := rom_len (k := k) (by omega) (by omega); omega
    | false => rw [if_neg (by decide), itoa_of_nat, dec4_eq (by omega)]; unfold dec4; split <;> (try split) <;> (try split) <;> simp
  have cP2 := fun W h => parseFolioL (rFolL k rom) W hlen h
  have cRF := fun W => rFolio_any k rom W ⟨by omega, by omega⟩
  unfold parV at cP2
  simp only at hB
  rw [hB] at cP2
  have hll : ((rFolL k rom) == (rFolL k rom)) = true := by simp
  generalize rFolL k rom = L at *
  have CP := Lib.hid cP; have CR := Lib.hid cR; have CF := Lib.hid cF; have CP2 := Lib.hid cP2; have CRF := Lib.hid cRF; clear cP cR cF hE cP2 cRF hB hlen
  go_enter Tryz.func3, Tryz.ntmps3
  go_wp2_with (first | (go_at_call 10; refine Calls.mono (CA.out _ (HT.out.ext (by repeat (first | exact Ext.refl _ | assumption | refine Ext.alloc ?_ _ | refine Ext.drew ?_ | refine Ext.drewN ?_ _ | (refine Ext.setCell ?_ (by simp <;> omega) _) | refine Ext.trans ?_ (by assumption))))) ?_; rintro e w1 ⟨rfl, hb1⟩; have HX1 : Hid (Ext w w1) := Lib.hid (Ext.trans (by repeat (first | exact Ext.refl _ | assumption | refine Ext.alloc ?_ _ | refine Ext.drew ?_ | refine Ext.drewN ?_ _ | (refine Ext.setCell ?_ (by simp <;> omega) _) | refine Ext.trans ?_ (by assumption))) hb1); clear hb1) | (go_at_call 11; have hq9 := HX4; clear hq9; refine Calls.mono (CP2.out _ (HT.out.ext (HX4.out.trans (by repeat (first | exact Ext.refl _ | assumption | refine Ext.alloc ?_ _ | refine Ext.drew ?_ | refine Ext.drewN ?_ _ | (refine Ext.setCell ?_ (by simp <;> omega) _) | refine Ext.trans ?_ (by assumption)))))) ?_; rintro e w5 ⟨rfl, hb5⟩; have HX5 : Hid (Ext w w5) := Lib.hid (HX4.out.trans (Ext.trans (by repeat (first | exact Ext.refl _ | assumption | refine Ext.alloc ?_ _ | refine Ext.drew ?_ | refine Ext.drewN ?_ _ | (refine Ext.setCell ?_ (by simp <;> omega) _) | refine Ext.trans ?_ (by assumption))) hb5)); clear hb5) | (go_at_call 11; refine Calls.mono (CP.out _ (HT.out.ext (HX1.out.trans (by repeat (first | exact Ext.refl _ | assumption | refine Ext.alloc ?_ _ | refine Ext.drew ?_ | refine Ext.drewN ?_ _ | (refine Ext.setCell ?_ (by simp <;> omega) _) | refine Ext.trans ?_ (by assumption)))))) ?_; rintro e w2 ⟨rfl, hb2⟩; have HX2 : Hid (Ext w w2) := Lib.hid (HX1.out.trans (Ext.trans (by repeat (first | exact Ext.refl _ | assumption | refine Ext.alloc ?_ _ | refine Ext.drew ?_ | refine Ext.drewN ?_ _ | (refine Ext.setCell ?_ (by simp <;> omega) _) | refine Ext.trans ?_ (by assumption))) hb2)); clear hb2) | (go_at_call 12; refine Calls.mono (CR.out _) ?_; rintro e w3 ⟨rfl, hb3⟩; have HX3 : Hid (Ext w w3) := Lib.hid (HX2.out.trans (Ext.trans (by repeat (first | exact Ext.refl _ | assumption | refine Ext.alloc ?_ _ | refine Ext.drew ?_ | refine Ext.drewN ?_ _ | (refine Ext.setCell ?_ (by simp <;> omega) _) | refine Ext.trans ?_ (by assumption))) hb3)); clear hb3) | (go_at_call 13; refine Calls.mono (CF.out _ (HTF.out.ext (HX3.out.trans (by repeat (first | exact Ext.refl _ | assumption | refine Ext.alloc ?_ _ | refine Ext.drew ?_ | refine Ext.drewN ?_ _ | (refine Ext.setCell ?_ (by simp <;> omega) _) | refine Ext.trans ?_ (by assumption)))))) ?_; rintro e w4 ⟨rfl, hb4⟩; have HX4 : Hid (Ext w w4) := Lib.hid (HX3.out.trans (Ext.trans (by repeat (first | exact Ext.refl _ | assumption | refine Ext.alloc ?_ _ | refine Ext.drew ?_ | refine Ext.drewN ?_ _ | (refine Ext.setCell ?_ (by simp <;> omega) _) | refine Ext.trans ?_ (by assumption))) hb4)); clear hb4) | (go_at_call 14; refine Calls.mono (bWithin_yes _ _ _ _ ?_) ?_; (omega); rintro e w1 ⟨rfl, rfl⟩) | (go_at_call 14; refine Calls.mono (bWithin_no _ _ _ _ ?_) ?_; (omega); rintro e w1 ⟨rfl, rfl⟩) | (go_at_call 15; refine Calls.mono (CRF.out _) ?_; rintro e w6 ⟨rfl, hb6⟩; have HX6 : Hid (Ext w w6) := Lib.hid (HX5.out.trans (Ext.trans (by repeat (first | exact Ext.refl _ | assumption | refine Ext.alloc ?_ _ | refine Ext.drew ?_ | refine Ext.drewN ?_ _ | (refine Ext.setCell ?_ (by simp <;> omega) _) | refine Ext.trans ?_ (by assumption))) hb6)); clear hb6))
  go_ret
  exact Ret.mk' rfl (HX6.out.trans (by repeat (first | exact Ext.refl _ | assumption | refine Ext.alloc ?_ _ | refine Ext.drew ?_ | refine Ext.drewN ?_ _ | (refine Ext.setCell ?_ (by simp <;> omega) _) | refine Ext.trans ?_ (by assumption))))
end Go.Proofs.YthjjjmhabdhgiaaGreatDoor.folios
