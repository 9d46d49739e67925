/-
  Walk: Reads by the folds of the scheme.
-/
import Derived.Test.YtniiahddpdiocaaFoldS3
namespace Go.Proofs.Ytniiahddpdiocaa
open Go.RowKit

/-- Pages with no error. -/
def RetRd (n : Nat) (w : World) (e : Ending) (w' : World) : Prop := ∃ A c, e = .returned (.tuple #[.slice A n c, .int .i64 0]) ∧ RPg w' A n ∧ Ext w w'
set_option maxRecDepth 100000 in
set_option maxHeartbeats 8000000 in
theorem reads_any (C R : Nat) (A B : Option Addr) (c d : Nat) (cs : List Cl) (fs : List (Int × Int)) (w : World) (hg : GoodF (C : Int) (R : Int) fs) (hcs : cs = cellsOf C R (leavesOf (C : Int) (R : Int) fs)) (h : RCl w A cs) (hb : RFo w B fs) (hI : ∀ k, k < fs.length → I64 (fs.getD k (0, 0)).2) (hl : fs.length ≤ 12) :
    Calls Try.prog 10 #[.agg #[.int .i64 (C : Int), .int .i64 (R : Int), .slice A cs.length c], .slice B fs.length d] w (RetRd (2 * (R * C)) w) := by
  obtain ⟨hon, C', R', e1, e2, c1, c8, r1, r8, hrc⟩ := hg.once
  obtain rfl : C = C' := by omega
  obtain rfl : R = R' := by omega
  rw [Int.toNat_natCast, Int.toNat_natCast] at hon
  have hlen : cs.length = R * C := by rw [hcs, cellsOf_len]
  have hrt : RightC cs := by rw [hcs]; exact cells_right hon
  have hft : Fit C (R * C) cs (leavesOf (C : Int) (R : Int) fs) := by rw [hcs]; exact hon.fit
  have hll := hon.len
  have CK := Lib.hid fun W h => check_any C R A c cs W h hlen hg.1 hrt
  have CF : Hid (∀ W, RFo W B fs → Calls Try.prog 30 #[.agg #[.int .i64 (C : Int), .int .i64 (R : Int)], .slice B fs.length d] W (RetYes (leavesOf (C : Int) (R : Int) fs) W)) := Lib.hid fun W h =>
    (folded_all (C : Int) (R : Int) B d fs W h hI hl).mono fun e w' h9 => by
      rcases h9 with ⟨_, h9⟩ | ⟨h9, _⟩
      · exact h9
      · exact absurd hg h9
  have CR := Lib.hid fun A1 d1 W (h1 : RCl W A cs) (h2 : RLf W A1 (leavesOf (C : Int) (R : Int) fs)) => read_any C R A A1 c d1 (R * C) cs _ W h1 h2 hft (by omega) (by omega) c8
  have HC := Lib.hid h; have HF := Lib.hid hb
  have hcl : cs.length ≤ 9223372036854775807 := by omega
  have HLL := Lib.hid hll
  have HS0 := Lib.hid (Blk.new w 28 #[.int .i64 (C : Int), .int .i64 (R : Int), .slice A cs.length c])
  have HX0 : Hid (Ext w (w.alloc (.cells #[.int .i64 (C : Int), .int .i64 (R : Int), .slice A cs.length c] 28))) := Lib.hid (by repeat (first | exact Ext.refl _ | assumption | refine Ext.alloc ?_ _ | refine Ext.drew ?_ | refine Ext.drewN ?_ _ | (refine Ext.setCell ?_ (by simp <;> omega) _) | refine Ext.trans ?_ (by assumption)))
  clear h hb hI hg hcs hon hlen hrt hft hll e1 e2
  generalize leavesOf (C : Int) (R : Int) fs = L at *
  go_enter Try.func10, Try.ntmps10
  go_upto_region 1 with fail
  generalize (w.alloc (.cells #[.int .i64 (C : Int), .int .i64 (R : Int), .slice A cs.length c] 28)) = w0 at *
  obtain ⟨sb, hsb⟩ : ∃ sb, w.heap.size = sb := ⟨_, rfl⟩
  rw [hsb] at HS0 ⊢
  clear hsb
  obtain ⟨s0, s1, s2, sl⟩ := HS0.out.c3
  go_upto_region 4 with (first | (go_at_call 34; refine Calls.mono (CK.out _ (HC.out.ext HX0.out)) ?_; rintro e w1 ⟨rfl, hx⟩; have HX1 := Lib.hid hx; obtain ⟨t0, t1, t2, tl⟩ := (HS0.out.ext hx).c3; clear hx))
  go_upto_region 5 with (first | (go_at_call 30; refine Calls.mono (CF.out _ (HF.out.ext (HX0.out.trans HX1.out))) ?_; rintro e w2 ⟨A1, d1, rfl, hlf, hx⟩; have HLF := Lib.hid hlf; have HX2 := Lib.hid (HX1.out.trans hx); obtain ⟨x0, x1, x2, xl⟩ := (HS0.out.ext HX2.out).c3; clear hlf hx))
  go_wp2_with (first | (go_at_call 35; refine Calls.mono (CR.out A1 d1 _ (HC.out.ext (HX0.out.trans HX2.out)) HLF.out) ?_; rintro e w3 ⟨A3, c3, rfl, hpg, hx⟩; have HPG := Lib.hid hpg; have HX3 := Lib.hid ((HX0.out.trans HX2.out).trans hx); clear hpg hx))
  refine bodyPost_ret (v := .tuple #[.slice A3 (L.length * 2) c3, .int .i64 0]) (by simp [results, Try.results10, go_sem]) rfl ⟨A3, c3, by rw [HLL.out, Nat.mul_comm], by rw [Nat.mul_comm 2, ← HLL.out]; exact HPG.out, HX3.out⟩
end Go.Proofs.Ytniiahddpdiocaa
