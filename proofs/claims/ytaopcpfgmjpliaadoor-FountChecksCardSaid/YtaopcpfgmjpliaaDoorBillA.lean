/-
  Walks: the sum of counts; the order of a bill's remainders (BillFor's closure).
-/
import Derived.Test.YtaopcpfgmjpliaaDoorTimes
namespace Go.Proofs.YtaopcpfgmjpliaaDoor
open Go.RowKit

def sumZ (zs : List Int) (n : Nat) : Int := sumTo (fun k => zs.getD k 0) n
set_option maxHeartbeats 1000000 in
theorem sum_any (A : Option Addr) (c : Nat) (zs : List Int) (w : World) (h : RI w A zs.length zs) (hl : zs.length ≤ 1000) (hb : ∀ k, k < zs.length → 0 ≤ zs.getD k 0 ∧ zs.getD k 0 ≤ 1000000000) :
    Calls Tryd.prog 34 #[.slice A zs.length c] w (Same (.int .i64 (sumZ zs zs.length)) w) := by
  have HR := Lib.hid h; clear h
  have HB := Lib.hid hb; clear hb
  go_enter Tryd.func34, Tryd.ntmps34
  go_wp2
  go_loop [3, 8] (fun s i => ∃ k : Nat, k ≤ zs.length ∧ i = .int .i64 k ∧ s = .int .i64 (sumZ zs k)) (fun _ i => zs.length - (intOf i).toNat)
  case atStart => exact ⟨0, Nat.zero_le _, rfl, rfl⟩
  case round =>
    obtain ⟨k, hk, rfl, rfl⟩ := hrel
    by_cases hlt : k < zs.length
    · obtain ⟨b, off, rfl, hbw, hcell⟩ := HR.out.2.2 (by omega)
      have c1 := hcell k hlt
      have hki : (k : Int) < (zs.length : Int) := by omega
      obtain ⟨z1, z2⟩ := HB.out k hlt
      have HS : Hid (sumZ zs (k + 1) = sumZ zs k + zs.getD k 0) := Lib.hid rfl
      have hs := sumTo_bd (fun k => zs.getD k 0) 1000000000 k (fun j hj => HB.out j (by omega))
      have hs1 : 0 ≤ sumZ zs k := hs.1
      have hs2 : sumZ zs k ≤ 1000000000000 := by have := hs.2; unfold sumZ; omega
      clear hs hcell
      generalize zs.getD k 0 = z at *
      generalize hg : sumZ zs k = t at *
      go_wp2
      go_round
      case rel => exact ⟨k + 1, by omega, by go_num, by rw [HS.out]⟩
      case measure => simp [intOf]; omega
    · obtain rfl : k = zs.length := by omega
      go_wp2
      go_ret
      exact ⟨rfl, rfl⟩

/-- The call hands back a number; it may draw. -/
def RetQ (z : Int) (w : World) (e : Ending) (w' : World) : Prop := e = .returned (.int .i64 z) ∧ ∃ q, w' = w.drewN q
def diffB (total all : Int) (ns : List Int) (a b : Nat) : Int := (total * ns.getD b 0) % all - (total * ns.getD a 0) % all
set_option maxHeartbeats 1000000 in
theorem billCmp_any (W : World) (b5 b4 b9 : Nat) (total all : Int) (X : Option Addr) (cx : Nat) (ns : List Int) (i j : Nat) (h5 : W.cell? ⟨b5, 0, none⟩ = some (.int .i64 total)) (h4 : W.cell? ⟨b4, 0, none⟩ = some (.slice X ns.length cx)) (h9 : W.cell? ⟨b9, 0, none⟩ = some (.int .i64 all))
    (hr : RI W X ns.length ns) (hi : i < ns.length) (hj : j < ns.length) (ht : 0 ≤ total ∧ total ≤ 1000000) (ha : 1 ≤ all ∧ all ≤ 1000000000) (hns : ∀ k, k < ns.length → 0 ≤ ns.getD k 0 ∧ ns.getD k 0 ≤ 1000000) :
    Calls Tryd.prog 36 #[.int .i64 i, .int .i64 j, .pointer (some ⟨b5, 0, none⟩), .pointer (some ⟨b4, 0, none⟩), .pointer (some ⟨b9, 0, none⟩)] W (RetQ (diffB total all ns i j) W) := by
  obtain ⟨b, off, rfl, hbw, hcell⟩ := hr.2.2 (by omega)
  have c1 := hcell i hi
  have c2 := hcell j hj
  have hii : (i : Int) < (ns.length : Int) := by omega
  have hjj : (j : Int) < (ns.length : Int) := by omega
  have p1 := mul_bd ht (hns i hi)
  have p2 := mul_bd ht (hns j hj)
  have HD : Hid (diffB total all ns i j = (total * ns.getD j 0) % all - (total * ns.getD i 0) % all) := Lib.hid rfl
  obtain ⟨ha1, ha2⟩ := ha
  have m1 := Int.emod_nonneg (total * ns.getD i 0) (show all ≠ 0 by omega)
  have m2 := Int.emod_nonneg (total * ns.getD j 0) (show all ≠ 0 by omega)
  have m3 := Int.emod_lt_of_pos (total * ns.getD i 0) (show 0 < all by omega)
  have m4 := Int.emod_lt_of_pos (total * ns.getD j 0) (show 0 < all by omega)
  generalize diffB total all ns i j = d at *
  generalize ns.getD i 0 = x at *
  generalize ns.getD j 0 = y at *
  clear hcell hns hr
  have q1 := IntWalk.i64_in (total * x) (by omega)
  have q2 := IntWalk.i64_in (total * y) (by omega)
  have q3 := IntWalk.i64_in ((total * y) % all - (total * x) % all) (by omega)
  have q4 : wrap64 ((total * y) % all - (total * x) % all) = (total * y) % all - (total * x) % all := IntWalk.wrap64_in _ ⟨by omega, by omega⟩
  have e0 : (all == 0) = false := by simp; omega
  have e1 : ¬ all = 0 := by omega
  go_enter Tryd.func36, Tryd.ntmps36
  go_wp2
  go_quiet (fail)
  go_wp2
  go_ret
  exact ⟨by rw [HD.out]; rfl, _, rfl⟩
end Go.Proofs.YtaopcpfgmjpliaaDoor
