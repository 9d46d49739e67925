/-
  Walks: a fount and counts are checked (the program's check and CheckCase, the reference's Err and CheckCase).
-/
import Derived.Test.YtaopcpfgmjpliaaDoorFuncs
namespace Go.Proofs.YtaopcpfgmjpliaaDoor
open Go.RowKit

/-- A slice of ints, as a value and as numbers. -/
structure SI where
  A : Option Addr
  c : Nat
  zs : List Int
def SI.val (s : SI) : Value := .slice s.A s.zs.length s.c
def SI.none_ : SI := ⟨none, 0, []⟩
/-- A slice of slices of ints. -/
def RL (w : World) (A : Option Addr) (n : Nat) (rows : List SI) : Prop :=
  rows.length = n ∧ n ≤ 9223372036854775807 ∧ (0 < n → ∃ b off, A = some ⟨b, off, none⟩ ∧ b < w.heap.size ∧ ∀ k, k < n → w.cell? ⟨b, off + k, none⟩ = some (rows.getD k SI.none_).val) ∧
  ∀ k, k < n → RI w (rows.getD k SI.none_).A (rows.getD k SI.none_).zs.length (rows.getD k SI.none_).zs
theorem RL.ext {w w' : World} {A : Option Addr} {n : Nat} {rows : List SI} (h : RL w A n rows) (hx : Ext w w') : RL w' A n rows :=
  ⟨h.1, h.2.1, fun hn => let ⟨b, off, ha, hb, hc⟩ := h.2.2.1 hn; ⟨b, off, ha, Nat.lt_of_lt_of_le hb hx.size, fun k hk => (hx.cell (p := ⟨b, off + k, none⟩) hb).trans (hc k hk)⟩, fun k hk => (h.2.2.2 k hk).ext hx⟩
/-- The first error of several counts. -/
def rowsErr (f : FT) (rows : List SI) : Nat → Int
  | 0 => 0
  | n + 1 => if rowsErr f rows n ≠ 0 then rowsErr f rows n else countsErr f (rows.getD n SI.none_).zs
def checkErr (f : FT) (rows : List SI) : Int := if (chk f).2 ≠ 0 then (chk f).2 else rowsErr f rows rows.length
theorem rowsErr_first {f : FT} {rows : List SI} {k : Nat} (h0 : rowsErr f rows k = 0) (hb : countsErr f (rows.getD k SI.none_).zs ≠ 0) : ∀ {n : Nat}, k < n → rowsErr f rows n = countsErr f (rows.getD k SI.none_).zs
  | n + 1, hk => by
    rw [rowsErr]
    by_cases h : k < n
    · rw [rowsErr_first h0 hb h, if_pos hb]
    · obtain rfl : k = n := by omega
      rw [if_neg (by rw [h0]; simp)]

set_option maxHeartbeats 2000000 in
theorem check_any (f : FT) (A : Option Addr) (c : Nat) (B : Option Addr) (n d : Nat) (rows : List SI) (w : World) (hf : FR w A c f) (h : RL w B n rows) :
    Calls Tryd.prog 33 #[f.val A c, .slice B n d] w (Ret (.int .i64 (checkErr f rows)) w) := by
  have hbig := h.2.1
  have hln := h.1
  have cF := fun W h => checkFount_any f A c W h
  have cC := fun X e zs W h => checkCounts_any f A c X e zs W h
  have HE : Hid (checkErr f rows = if (chk f).2 ≠ 0 then (chk f).2 else rowsErr f rows n) := Lib.hid (by unfold checkErr; rw [hln])
  have HF := Lib.hid hf; have HR := Lib.hid h; clear hf h hln
  unfold ChkV at cF
  generalize (chk f).1 = m at *
  generalize (chk f).2 = z at *
  have HB0 := fun k e => rowsErr_first (f := f) (rows := rows) (k := k) (n := n) e
  have HBF := Lib.hid HB0; clear HB0
  have HS : Hid (∀ k, rowsErr f rows k = 0 → countsErr f (rows.getD k SI.none_).zs = 0 → rowsErr f rows (k + 1) = 0) := Lib.hid (fun k h1 h2 => by rw [rowsErr, if_neg (by rw [h1]; simp), h2])
  obtain ⟨name, body, ss⟩ := f
  simp only [FT.val] at *
  have CF := Lib.hid cF; have CC := Lib.hid cC; clear cF cC
  by_cases hz : z = 0
  · subst hz
    go_enter Tryd.func33, Tryd.ntmps33
    go_wp2_with (first | (go_at_call 6; refine Calls.mono (CF.out _ ?_) ?_; (exact HF.out.ext (by repeat (first | exact Ext.refl _ | assumption | refine Ext.alloc ?_ _ | refine Ext.drew ?_ | refine Ext.drewN ?_ _ | (refine Ext.setCell ?_ (by simp <;> omega) _) | refine Ext.trans ?_ (by assumption)))); rintro e w1 ⟨rfl, hb⟩; have F1 := (Blk.new _ _ _).ext hb))
    go_loopw [20] (fun i wr => ∃ k : Nat, k ≤ n ∧ i = .int .i64 k ∧ rowsErr ⟨name, body, ss⟩ rows k = 0 ∧ Ext w wr ∧ Blk wr w.heap.size 24 #[.string name, .int .i64 body, .slice A ss.length c]) (fun i _ => n - (intOf i).toNat)
    case atStart => exact ⟨0, Nat.zero_le _, rfl, rfl, (by repeat (first | exact Ext.refl _ | assumption | refine Ext.alloc ?_ _ | refine Ext.drew ?_ | refine Ext.drewN ?_ _ | (refine Ext.setCell ?_ (by simp <;> omega) _) | refine Ext.trans ?_ (by assumption))), F1⟩
    case round =>
      obtain ⟨k, hk, rfl, h0, hx, hB⟩ := hrel
      have H0 := Lib.hid h0; clear h0
      obtain ⟨f0, f1, f2, fl⟩ := hB.c3
      have HX := Lib.hid hx; have HBB := Lib.hid hB
      clear F1 hb
      by_cases hlt : k < n
      · obtain ⟨b, off, rfl, hbw, hcell⟩ := (HR.out.ext hx).2.2.1 (by omega)
        have hrow := (HR.out.ext hx).2.2.2 k hlt
        have c1 := hcell k hlt
        have HS1 := Lib.hid (HS.out k H0.out)
        have HB1 := Lib.hid (fun hb => HBF.out k H0.out hb hlt)
        have cc := fun W h => CC.out (rows.getD k SI.none_).A (rows.getD k SI.none_).c (rows.getD k SI.none_).zs W h
        clear hx hB hcell
        generalize rows.getD k SI.none_ = r at *
        obtain ⟨X, e, zs⟩ := r
        simp only [SI.val] at *
        generalize countsErr ⟨name, body, ss⟩ zs = y at *
        have C1 := Lib.hid cc; clear cc
        have HRW := Lib.hid hrow; clear hrow
        by_cases hy : y = 0
        · subst hy
          go_wp2_with (first | (go_at_call 48; refine Calls.mono (C1.out _ ?_) ?_; (exact HRW.out.ext (by repeat (first | exact Ext.refl _ | assumption | refine Ext.alloc ?_ _ | refine Ext.drew ?_ | refine Ext.drewN ?_ _ | (refine Ext.setCell ?_ (by simp <;> omega) _) | refine Ext.trans ?_ (by assumption)))); rintro e w2 ⟨rfl, hb2⟩))
          go_roundw
          case rel => exact ⟨k + 1, by omega, by go_num, HS1.out (by first | exact rfl | trivial), HX.out.trans hb2, HBB.out.ext hb2⟩
          case measure => simp [intOf]; omega
        · have e0 : (y != 0) = true := by simpa using hy
          have HY := Lib.hid hy; clear hy
          go_wp2_with (first | (go_at_call 48; refine Calls.mono (C1.out _ ?_) ?_; (exact HRW.out.ext (by repeat (first | exact Ext.refl _ | assumption | refine Ext.alloc ?_ _ | refine Ext.drew ?_ | refine Ext.drewN ?_ _ | (refine Ext.setCell ?_ (by simp <;> omega) _) | refine Ext.trans ?_ (by assumption)))); rintro e w2 ⟨rfl, hb2⟩))
          go_ret
          exact Ret.mk' (by rw [HE.out, if_neg (by simp), HB1.out HY.out]; rfl) (HX.out.trans hb2)
      · obtain rfl : k = n := by omega
        clear hx hB
        go_wp2
        go_ret
        exact Ret.mk' (by rw [HE.out, if_neg (by simp), H0.out]; rfl) HX.out
  · have e0 : (z != 0) = true := by simpa using hz
    have HZ := Lib.hid hz; clear hz
    go_enter Tryd.func33, Tryd.ntmps33
    go_wp2_with (first | (go_at_call 6; refine Calls.mono (CF.out _ ?_) ?_; (exact HF.out.ext (by repeat (first | exact Ext.refl _ | assumption | refine Ext.alloc ?_ _ | refine Ext.drew ?_ | refine Ext.drewN ?_ _ | (refine Ext.setCell ?_ (by simp <;> omega) _) | refine Ext.trans ?_ (by assumption)))); rintro e w1 ⟨rfl, hb⟩))
    go_ret
    exact Ret.mk' (by rw [HE.out, if_pos HZ.out]; rfl) (by repeat (first | exact Ext.refl _ | assumption | refine Ext.alloc ?_ _ | refine Ext.drew ?_ | refine Ext.drewN ?_ _ | (refine Ext.setCell ?_ (by simp <;> omega) _) | refine Ext.trans ?_ (by assumption)))

/-- One row, two rows, none. -/
theorem RL.none_ (w : World) : RL w none 0 [] := ⟨rfl, by omega, fun h => absurd h (by omega), fun k hk => absurd hk (by omega)⟩
theorem RL.one {w : World} {g : Nat} {T : TypeId} {r : SI} (hb : Blk w g T #[r.val]) (h : RI w r.A r.zs.length r.zs) : RL w (some ⟨g, 0, none⟩) 1 [r] := by
  refine ⟨rfl, by omega, fun _ => ⟨g, 0, rfl, hb.lt, fun k hk => ?_⟩, fun k hk => ?_⟩
  · obtain rfl : k = 0 := by omega
    exact hb.cell 0 _ rfl
  · obtain rfl : k = 0 := by omega
    exact h
theorem RL.two {w : World} {g : Nat} {T : TypeId} {r s : SI} (hb : Blk w g T #[r.val, s.val]) (h : RI w r.A r.zs.length r.zs) (h' : RI w s.A s.zs.length s.zs) : RL w (some ⟨g, 0, none⟩) 2 [r, s] := by
  refine ⟨rfl, by omega, fun _ => ⟨g, 0, rfl, hb.lt, fun k hk => ?_⟩, fun k hk => ?_⟩
  · rcases (show k = 0 ∨ k = 1 by omega) with rfl | rfl
    · exact hb.cell 0 _ rfl
    · exact hb.cell 1 _ rfl
  · rcases (show k = 0 ∨ k = 1 by omega) with rfl | rfl
    · exact h
    · exact h'
theorem checkErr_none (f : FT) : checkErr f [] = (chk f).2 := by
  unfold checkErr; by_cases h : (chk f).2 = 0 <;> simp [rowsErr, h]
theorem checkErr_one (f : FT) (r : SI) : checkErr f [r] = caseErr f r.zs := by unfold checkErr caseErr; simp [rowsErr]
/-- The errors of two counts. -/
def caseErr2 (f : FT) (xs ys : List Int) : Int := if caseErr f xs ≠ 0 then caseErr f xs else countsErr f ys
theorem checkErr_two (f : FT) (r s : SI) : checkErr f [r, s] = caseErr2 f r.zs s.zs := by
  unfold checkErr caseErr2 caseErr
  by_cases h : (chk f).2 = 0
  · simp [rowsErr, h]
  · simp [h]

end Go.Proofs.YtaopcpfgmjpliaaDoor
