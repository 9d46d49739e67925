/-
  The answer of folded in one word; cells of schemes in memory; the reference's Copy.
-/
import Derived.Test.YtniiahddpdiocaaFoldR7
namespace Go.Proofs.Ytniiahddpdiocaa
open Go.RowKit

/-- The leaves of right folds. -/
def leavesOf (C R : Int) (fs : List (Int × Int)) : List Lf := (pileTo (flatP C.toNat R.toNat) fs fs.length).at_.getD 0 []
def RetFa (C R : Int) (fs : List (Int × Int)) (w : World) (e : Ending) (w' : World) : Prop :=
  (GoodF C R fs ∧ RetYes (leavesOf C R fs) w e w') ∨ (¬ GoodF C R fs ∧ ∃ i z : Int, z ≠ 0 ∧ e = .returned (.tuple #[.slice none 0 0, .int .i64 i, .int .i64 z]) ∧ Ext w w')
theorem folded_all (C R : Int) (A : Option Addr) (c : Nat) (fs : List (Int × Int)) (w : World) (h : RFo w A fs) (hI : ∀ k, k < fs.length → I64 (fs.getD k (0, 0)).2) (hl : fs.length ≤ 12) :
    Calls Try.prog 30 #[.agg #[.int .i64 C, .int .i64 R], .slice A fs.length c] w (RetFa C R fs w) := by
  by_cases hz : sheetE C R = 0
  · obtain ⟨C', R', rfl, rfl, c1, c8, r1, r8, hrc⟩ := sheetE_zero hz
    refine (folded_any C' R' A c fs w h hI hz hl).mono fun e w' h9 => ?_
    have hgd : GoodF (C' : Int) (R' : Int) fs ↔ (∀ j, j < fs.length → errAt C' R' fs j = 0) ∧ (sideTo C' R' fs fs.length).2 * (sideTo C' R' fs fs.length).1 = 1 := by
      unfold GoodF
      rw [Int.toNat_natCast, Int.toNat_natCast]
      exact ⟨fun h => h.2, fun h => ⟨hz, h⟩⟩
    have hlv : leavesOf (C' : Int) (R' : Int) fs = (pileTo (flatP C' R') fs fs.length).at_.getD 0 [] := by unfold leavesOf; rw [Int.toNat_natCast, Int.toNat_natCast]
    rcases h9 with ⟨i, h1, h2, h3, h4, h5⟩ | ⟨h1, h2, h4, h5⟩ | ⟨h1, h2, h4⟩
    · exact .inr ⟨fun hg => h3 ((hgd.1 hg).1 i h1), i, _, h3, h4, h5⟩
    · refine .inr ⟨fun hg => ?_, (fs.length : Int), 25, by decide, h4, h5⟩
      obtain ⟨g1, g2, g3⟩ := pile_good c1 r1 c8 r8 fs fs.length h1
      have := (hgd.1 hg).2
      rw [g1.len, g2, g3] at h2
      omega
    · refine .inl ⟨hgd.2 ⟨h1, ?_⟩, by rw [hlv]; exact h4⟩
      obtain ⟨g1, g2, g3⟩ := pile_good c1 r1 c8 r8 fs fs.length h1
      rw [g1.len] at h2
      have := Nat.mul_le_mul g1.r1 g1.c1
      rw [← g2, ← g3]
      omega
  · refine (folded_sheet C R A fs.length c w hz).mono fun e w' ⟨h1, h2⟩ => .inr ⟨fun hg => hz hg.1, 0, _, hz, h1, h2⟩
/-- The leaves of right folds: each cell once. -/
theorem GoodF.once {C R : Int} {fs : List (Int × Int)} (h : GoodF C R fs) : OnceL C.toNat R.toNat (leavesOf C R fs) ∧ ∃ c r : Nat, C = (c : Int) ∧ R = (r : Int) ∧ 1 ≤ c ∧ c ≤ 8 ∧ 1 ≤ r ∧ r ≤ 8 ∧ r * c ≤ 32 := by
  obtain ⟨C', R', rfl, rfl, c1, c8, r1, r8, hrc⟩ := sheetE_zero h.1
  refine ⟨?_, C', R', rfl, rfl, c1, c8, r1, r8, hrc⟩
  have h2 := h.2
  rw [Int.toNat_natCast, Int.toNat_natCast] at h2
  unfold leavesOf
  rw [Int.toNat_natCast, Int.toNat_natCast]
  obtain ⟨g1, g2, g3⟩ := pile_good c1 r1 c8 r8 fs fs.length h2.1
  exact g1.once (by rw [g1.len, g2, g3]; omega)

/-! Cells of a scheme. -/
def clCells : List Cl → List Value
  | [] => []
  | x :: l => .int .i64 x.f :: .int .i64 x.ft :: .int .i64 x.b :: .int .i64 x.bt :: clCells l
theorem clCells_len : ∀ l : List Cl, (clCells l).length = l.length * 4
  | [] => rfl
  | x :: l => by simp [clCells, clCells_len l]; omega
theorem clCells_one : ∀ (l : List Cl) (u : Value), u ∈ clCells l → u.oneCell' = true
  | [], u, h => by simp [clCells] at h
  | x :: l, u, h => by
    simp only [clCells, List.mem_cons] at h
    rcases h with rfl | rfl | rfl | rfl | h
    · rfl
    · rfl
    · rfl
    · rfl
    · exact clCells_one l u h
theorem clCells_at : ∀ (l : List Cl) (k : Nat), k < l.length → (clCells l)[k * 4]? = some (.int .i64 (l.getD k Cl.zero).f) ∧ (clCells l)[k * 4 + 1]? = some (.int .i64 (l.getD k Cl.zero).ft) ∧
    (clCells l)[k * 4 + 2]? = some (.int .i64 (l.getD k Cl.zero).b) ∧ (clCells l)[k * 4 + 3]? = some (.int .i64 (l.getD k Cl.zero).bt)
  | x :: l, 0, _ => ⟨rfl, rfl, rfl, rfl⟩
  | x :: l, k + 1, h => by
    have h0 := clCells_at l k (by simpa using h)
    rw [show (k + 1) * 4 = k * 4 + 4 by omega]
    exact h0
theorem clCells_set : ∀ (l : List Cl) (k : Nat) (x : Cl), k < l.length → clCells (l.set k x) = ((((clCells l).set (k * 4) (.int .i64 x.f)).set (k * 4 + 1) (.int .i64 x.ft)).set (k * 4 + 2) (.int .i64 x.b)).set (k * 4 + 3) (.int .i64 x.bt)
  | y :: l, 0, x, _ => rfl
  | y :: l, k + 1, x, h => by
    have h0 := clCells_set l k x (by simpa using h)
    rw [show (k + 1) * 4 = k * 4 + 4 by omega]
    rw [List.set_cons_succ, clCells, h0]
    rfl
theorem cellElt : Elt 26 80 4 32 (.agg #[.int .i64 0, .int .i64 0, .int .i64 0, .int .i64 0]) := ⟨Try.underlying26, by kernel_rfl, rfl, by decide, by decide⟩
def RCl (w : World) (A : Option Addr) (l : List Cl) : Prop := RC w A l.length 4 (clCells l)
theorem RCl.ext {w w' : World} {A : Option Addr} {l : List Cl} (h : RCl w A l) (hx : Ext w w') : RCl w' A l := RC.ext h hx
theorem RCl.at_ {w : World} {A : Option Addr} {l : List Cl} (h : RCl w A l) {k : Nat} (hk : k < l.length) : ∃ b off, A = some ⟨b, off, none⟩ ∧ b < w.heap.size ∧ w.cell? ⟨b, off + k * 4, none⟩ = some (.int .i64 (l.getD k Cl.zero).f) ∧ w.cell? ⟨b, off + k * 4 + 1, none⟩ = some (.int .i64 (l.getD k Cl.zero).ft) ∧
    w.cell? ⟨b, off + k * 4 + 2, none⟩ = some (.int .i64 (l.getD k Cl.zero).b) ∧ w.cell? ⟨b, off + k * 4 + 3, none⟩ = some (.int .i64 (l.getD k Cl.zero).bt) := by
  obtain ⟨b, off, rfl, hb, hc⟩ := h.2.2 (by omega)
  obtain ⟨h0, h1, h2, h3⟩ := clCells_at l k hk
  exact ⟨b, off, rfl, hb, hc _ _ h0, by rw [Nat.add_assoc]; exact hc _ _ h1, by rw [Nat.add_assoc]; exact hc _ _ h2, by rw [Nat.add_assoc]; exact hc _ _ h3⟩
/-- A scheme handed back. -/
def RetSc (C R : Int) (l : List Cl) (w : World) (e : Ending) (w' : World) : Prop := ∃ A c, e = .returned (.agg #[.int .i64 C, .int .i64 R, .slice A (List.length l) c]) ∧ RCl w' A l ∧ Ext w w'
theorem cl_lit0 (w : World) : (w.alloc (.cells #[] 80)).ownsRow w.heap.size 80 4 (.slice (some ⟨w.heap.size, 0, none⟩) 0 0) 0 [] :=
  World.ownsRow_lit (e := 80) (size := 4) w #[] 0 (Nat.le_refl _) (by unfold maxLen; omega) rfl
set_option maxRecDepth 100000 in
set_option maxHeartbeats 4000000 in
theorem rCopy_any (C R : Int) (A : Option Addr) (c : Nat) (l : List Cl) (w : World) (h : RCl w A l) (hl : l.length ≤ 1000) :
    Calls Try.prog 11 #[.agg #[.int .i64 C, .int .i64 R, .slice A l.length c]] w (RetSc C R l w) := by
  have HR := Lib.hid h
  clear h
  have HB1 := Lib.hid ((Blk.new w 28 #[.int .i64 C, .int .i64 R, .slice A l.length c]).alloc (.cells #[.int .i64 0, .int .i64 0, .slice none 0 0] 28))
  have HB0 := Lib.hid (Blk.new1 w (.cells #[.int .i64 C, .int .i64 R, .slice A l.length c] 28) 28 #[.int .i64 0, .int .i64 0, .slice none 0 0])
  have HX0 : Hid (Ext w ((w.alloc (.cells #[.int .i64 C, .int .i64 R, .slice A l.length c] 28)).alloc (.cells #[.int .i64 0, .int .i64 0, .slice none 0 0] 28))) := Lib.hid (by repeat (first | exact Ext.refl _ | assumption | refine Ext.alloc ?_ _ | refine Ext.drew ?_ | refine Ext.drewN ?_ _ | (refine Ext.setCell ?_ (by simp <;> omega) _) | refine Ext.trans ?_ (by assumption)))
  go_enter Try.func11, Try.ntmps11
  go_upto_region 1 with fail
  generalize ((w.alloc (.cells #[.int .i64 C, .int .i64 R, .slice A l.length c] 28)).alloc (.cells #[.int .i64 0, .int .i64 0, .slice none 0 0] 28)) = w0 at *
  obtain ⟨hb, hhb⟩ : ∃ hb, w.heap.size = hb := ⟨_, rfl⟩
  rw [hhb] at HB1 HB0 ⊢
  have HHE : Hid (w.heap.size ≤ hb ∧ w.heap.size ≤ hb + 1) := Lib.hid (by omega)
  clear hhb
  obtain ⟨qb, hqb⟩ : ∃ qb, qb = hb + 1 := ⟨_, rfl⟩
  have HQE : Hid (w.heap.size ≤ qb ∧ hb ≠ qb) := Lib.hid (by have := HHE.out; omega)
  rw [← hqb] at HB0 ⊢
  clear hqb
  obtain ⟨k0, k1, k2, kl⟩ := HB1.out.c3
  have HLS := Lib.hid (cl_lit0 w0)
  go_upto_region 2 with (first | (at_builtin; refine list_appendC cellElt rfl (.tmp 3) (.tmp 5) rfl w0.heap.size 0 _ [] rfl HLS.out A l.length c (clCells l) rfl (RCl.ext HR.out (HX0.out.trans (by repeat (first | exact Ext.refl _ | assumption | refine Ext.alloc ?_ _ | refine Ext.drew ?_ | refine Ext.drewN ?_ _ | (refine Ext.setCell ?_ (by simp <;> omega) _) | refine Ext.trans ?_ (by assumption))))) (clCells_one l) (by omega) (by simp) ?_; intro v' w' ho hg; have HX2 := Lib.hid (own_grown HLS.out hg ((Ext.refl w0).alloc _) (Nat.le_refl _)); rw [Nat.zero_add, List.nil_append] at ho; have HO := Lib.hid ho; obtain ⟨A9, c9, rfl, _⟩ := own_form ho (by omega); obtain ⟨m0, m1, m2, ml⟩ := (HB1.out.ext HX2.out).c3; have F := (HB1.out.ext HX2.out).frozen; clear ho hg))
  have HL0 : Hid (hb < w0.heap.size ∧ qb < w0.heap.size) := Lib.hid ⟨HB1.out.lt, HB0.out.lt⟩
  have HM := Lib.hid ((HB1.out.ext HX2.out).set_ 2 (.slice A9 l.length c9))
  have HQ := Lib.hid (Blk.far (HB0.out.ext HX2.out) (p := ⟨hb, 2, none⟩) (fun e => HQE.out.2 e.symm) (.slice A9 l.length c9))
  have HOW := Lib.hid (Mv.far (pb := hb) HO.out (by have := HL0.out.1; omega) 2 (.slice A9 l.length c9))
  have HXW : Hid (Ext w (w'.setCell ⟨hb, 2, none⟩ (.slice A9 l.length c9))) := Lib.hid ((HX0.out.trans HX2.out).setCell HHE.out.1 _)
  clear k0 k1 k2 kl m0 m1 m2 ml F
  generalize w'.setCell ⟨hb, 2, none⟩ (.slice A9 l.length c9) = W4 at *
  obtain ⟨m0, m1, m2, ml⟩ := HM.out.c3
  obtain ⟨r0, r1, r2, rl⟩ := HQ.out.c3
  have F := HQ.out.frozen
  go_wp2
  have h1 := Mv.far (pb := qb) (Mv.far (pb := qb) (Mv.far (pb := qb) HOW.out (by have := HL0.out.2; omega) 0 (.int .i64 C)) (by have := HL0.out.2; omega) 1 (.int .i64 R)) (by have := HL0.out.2; omega) 2 (.slice A9 l.length c9)
  obtain ⟨A8, c8, he, hrc⟩ := own_form h1 (by omega)
  obtain ⟨rfl, _, rfl⟩ := Value.slice.inj he
  refine bodyPost_ret (v := .agg #[.int .i64 C, .int .i64 R, .slice A9 l.length c9]) (by simp [results, Try.results11, go_sem, r0, r1, r2]) rfl ⟨A9, c9, rfl, hrc, setCell3 HXW.out HQE.out.1 _ _ _⟩
end Go.Proofs.Ytniiahddpdiocaa
