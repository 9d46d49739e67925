/-
  Chapter 5, in plain words: galleys and rules in memory, and what the functions of pages compute.
  Plain law: what a right galley is; cores of pages; bounds of what pages use and cost.
  Walks: chapter 5: within, isHeight; whether rules are right.
  Plain law: roman folios: what is written is read back; the first number with a folio.
  Plain law: reading folios: the number whose folio a text is, or the error.
-/
import Derived.Test.YtccdnieoaejgdaaGreatDoorT2AD
import Derived.Test.YtccdnieoaejgdaaGreatDoorT2AA
import Derived.Lib.ItoaNum
import Derived.Lib.AtoiAll
set_option linter.unusedVariables false
set_option linter.unusedSimpArgs false
set_option linter.unusedSectionVars false
namespace Go.Proofs.YtccdnieoaejgdaaGreatDoor
open Go.RowKit

end Go.Proofs.YtccdnieoaejgdaaGreatDoor
namespace Go.Proofs.YtccdnieoaejgdaaGreatDoor
open Go.RowKit

end Go.Proofs.YtccdnieoaejgdaaGreatDoor
namespace Go.Proofs.YtccdnieoaejgdaaGreatDoor
open Go.RowKit

end Go.Proofs.YtccdnieoaejgdaaGreatDoor
namespace Go.Proofs.YtccdnieoaejgdaaGreatDoor
open Go.RowKit

end Go.Proofs.YtccdnieoaejgdaaGreatDoor
namespace Go.Proofs.YtccdnieoaejgdaaGreatDoor
open Go.RowKit

theorem dc_lt {u : Nat} (h : u < 10) : Lib.decDigits u = [UInt8.ofNat (48 + u)] := by unfold Lib.decDigits; rw [dif_pos h]
theorem dc_ge {u : Nat} (h : 10 ≤ u) : Lib.decDigits u = Lib.decDigits (u / 10) ++ [UInt8.ofNat (48 + u % 10)] := by
  conv => lhs; unfold Lib.decDigits
  rw [dif_neg (by omega)]
theorem itoa_of_nat (u : Nat) : Lib.itoa (u : Int) = Lib.decDigits u := by unfold Lib.itoa; rw [if_neg (by omega), Int.toNat_natCast]
/-- The digits of a number, none of 0. -/
def decR (u : Nat) : List UInt8 := if u = 0 then [] else Lib.decDigits u
theorem decR_zero : decR 0 = [] := rfl
theorem decR_next {u : Nat} (h : u ≠ 0) : decR u = decR (u / 10) ++ [UInt8.ofNat (48 + u % 10)] := by
  unfold decR
  rw [if_neg h]
  by_cases h9 : u < 10
  · rw [if_pos (by omega), dc_lt h9, Nat.mod_eq_of_lt h9]; rfl
  · rw [if_neg (by omega), dc_ge (by omega)]
theorem decR_pos {u : Nat} (h : u ≠ 0) : decR u = Lib.itoa (u : Int) := by rw [itoa_of_nat]; unfold decR; rw [if_neg h]
end Go.Proofs.YtccdnieoaejgdaaGreatDoor
