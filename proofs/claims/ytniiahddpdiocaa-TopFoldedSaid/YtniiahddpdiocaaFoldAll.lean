/-
  Walk: folded.
-/
import Derived.Test.YtniiahddpdiocaaFoldFold
namespace Go.Proofs.Ytniiahddpdiocaa
open Go.RowKit

def foCells : List (Int × Int) → List Value
  | [] => []
  | x :: l => .int .i64 x.1 :: .int .i64 x.2 :: foCells l
theorem foCells_len : ∀ l : List (Int × Int), (foCells l).length = l.length * 2
  | [] => rfl
  | x :: l => by simp [foCells, foCells_len l]; omega
theorem foCells_at : ∀ (l : List (Int × Int)) (k : Nat), k < l.length → (foCells l)[k * 2]? = some (.int .i64 (l.getD k (0, 0)).1) ∧ (foCells l)[k * 2 + 1]? = some (.int .i64 (l.getD k (0, 0)).2)
  | x :: l, 0, _ => ⟨rfl, rfl⟩
  | x :: l, k + 1, h => by
    have h0 := foCells_at l k (by simpa using h)
    rw [show (k + 1) * 2 = k * 2 + 2 by omega]
    exact h0
theorem foCells_one : ∀ (l : List (Int × Int)) (u : Value), u ∈ foCells l → u.oneCell' = true
  | [], u, h => by simp [foCells] at h
  | x :: l, u, h => by
    simp only [foCells, List.mem_cons] at h
    rcases h with rfl | rfl | h
    · rfl
    · rfl
    · exact foCells_one l u h
/-- A slice of folds. -/
def RFo (w : World) (A : Option Addr) (fs : List (Int × Int)) : Prop := RC w A fs.length 2 (foCells fs)
theorem RFo.ext {w w' : World} {A : Option Addr} {fs : List (Int × Int)} (h : RFo w A fs) (hx : Ext w w') : RFo w' A fs := RC.ext h hx
theorem RFo.at_ {w : World} {A : Option Addr} {fs : List (Int × Int)} (h : RFo w A fs) {k : Nat} (hk : k < fs.length) : ∃ b off, A = some ⟨b, off, none⟩ ∧ b < w.heap.size ∧ w.cell? ⟨b, off + k * 2, none⟩ = some (.int .i64 (fs.getD k (0, 0)).1) ∧ w.cell? ⟨b, off + k * 2 + 1, none⟩ = some (.int .i64 (fs.getD k (0, 0)).2) := by
  obtain ⟨b, off, rfl, hb, hc⟩ := h.2.2 (by omega)
  obtain ⟨h0, h1⟩ := foCells_at fs k hk
  exact ⟨b, off, rfl, hb, hc _ _ h0, by rw [Nat.add_assoc]; exact hc _ _ h1⟩
/-- The answer of folded where it has no leaves. -/
def RetNo (i : Nat) (z : Int) (w : World) (e : Ending) (w' : World) : Prop := e = .returned (.tuple #[.slice none 0 0, .int .i64 (i : Int), .int .i64 z]) ∧ Ext w w'
def RetYes (l : List Lf) (w : World) (e : Ending) (w' : World) : Prop := ∃ A c, e = .returned (.tuple #[.slice A l.length c, .int .i64 0, .int .i64 0]) ∧ RLf w' A l ∧ Ext w w'
set_option maxRecDepth 100000 in
theorem folded_sheet (C R : Int) (A : Option Addr) (n c : Nat) (w : World) (hz : sheetE C R ≠ 0) :
    Calls Try.prog 30 #[.agg #[.int .i64 C, .int .i64 R], .slice A n c] w (RetNo 0 (sheetE C R) w) := by
  have e0 : (sheetE C R != 0) = true := by simpa using hz
  have CS := Lib.hid fun W => checkSheet_any C R W
  generalize sheetE C R = z at *
  go_enter Try.func30, Try.ntmps30
  go_wp2_with (first | (go_at_call 54; refine Calls.mono (CS.out _) ?_; rintro e w1 ⟨rfl, rfl⟩))
  refine bodyPost_ret (v := .tuple #[.slice none 0 0, .int .i64 0, .int .i64 z]) (by simp [results, Try.results30, go_sem]) rfl ⟨rfl, (by repeat (first | exact Ext.refl _ | assumption | refine Ext.alloc ?_ _ | refine Ext.drew ?_ | refine Ext.drewN ?_ _ | (refine Ext.setCell ?_ (by simp <;> omega) _) | refine Ext.trans ?_ (by assumption)))⟩
/-- What holds between the folds. -/
structure Fd (w wr : World) (pb : Nat) (p : Pl) (A : Option Addr) (d : Nat) (rows : List SLf) : Prop where
  ext : Ext w wr
  pr : PR wr p A rows
  pp : PB wr pb p A rows.length d
theorem Fd.next {w wr w' : World} {pb : Nat} {p : Pl} {A : Option Addr} {d : Nat} {rows : List SLf} (h : Fd w wr pb p A d rows) (hx : Ext wr w') : Fd w w' pb p A d rows := ⟨h.ext.trans hx, h.pr.ext hx, h.pp.ext hx⟩
theorem OkP.all {p : Pl} (h : OkP p) (h1 : 1 ≤ p.C) : ∀ l ∈ p.at_, l.length ≤ 1000000 := fun l hl => by
  obtain ⟨k, hk, rfl⟩ := List.getElem_of_mem hl
  have hkl : k < p.R * p.C := by rw [← h.len]; exact hk
  have e : p.st (k % p.C) (k / p.C) = p.at_[k] := by
    unfold Pl.st
    rw [Nat.mul_comm, Nat.div_add_mod, List.getD_eq_getElem?_getD, List.getElem?_eq_getElem hk]; rfl
  rw [← e]
  have := h.sl (k % p.C) (k / p.C) (Nat.mod_lt _ h1) (Nat.div_lt_of_lt_mul (by rw [Nat.mul_comm p.C p.R]; exact hkl))
  omega
theorem Fd.store {w wr : World} {pb base : Nat} {p : Pl} {v0 v1 v2 : Value} {A : Option Addr} {d : Nat} {rows : List SLf} (hx : Ext w wr) (hw : w.heap.size ≤ pb) (hb : Blk wr pb 123 #[v0, v1, v2]) (ho : OPl wr base p (.slice A rows.length d) rows) (hpb : pb < base) (hok : OkP p) (h1 : 1 ≤ p.C) :
    Fd w (((wr.setCell ⟨pb, 0, none⟩ (.int .i64 (p.C : Int))).setCell ⟨pb, 1, none⟩ (.int .i64 (p.R : Int))).setCell ⟨pb, 2, none⟩ (.slice A rows.length d)) pb p A d rows := by
  have hlen : rows.length ≤ 1000000 := by
    have e : rows.length = p.at_.length := by rw [← ho.ls, List.length_map]
    have := hok.len
    have := Nat.mul_le_mul hok.r8 hok.c8
    omega
  exact ⟨setCell3 hx hw _ _ _, (ho.far3 hpb _ _ _).pr hlen (hok.all h1), ((hb.set_ 0 _).set_ 1 _).set_ 2 _⟩
/-- What folded answers for a right sheet. -/
def RetFd (C R : Nat) (fs : List (Int × Int)) (w : World) (e : Ending) (w' : World) : Prop :=
  (∃ i, i < fs.length ∧ (∀ j, j < i → errAt C R fs j = 0) ∧ errAt C R fs i ≠ 0 ∧ RetNo i (errAt C R fs i) w e w') ∨
  ((∀ j, j < fs.length → errAt C R fs j = 0) ∧ 1 < (pileTo (flatP C R) fs fs.length).at_.length ∧ RetNo fs.length 25 w e w') ∨
  ((∀ j, j < fs.length → errAt C R fs j = 0) ∧ (pileTo (flatP C R) fs fs.length).at_.length ≤ 1 ∧ RetYes ((pileTo (flatP C R) fs fs.length).at_.getD 0 []) w e w')
set_option maxRecDepth 100000 in
set_option maxHeartbeats 8000000 in
theorem folded_any (C R : Nat) (A : Option Addr) (c : Nat) (fs : List (Int × Int)) (w : World) (h : RFo w A fs) (hI : ∀ k, k < fs.length → I64 (fs.getD k (0, 0)).2) (hz : sheetE (C : Int) (R : Int) = 0) (hl : fs.length ≤ 12) :
    Calls Try.prog 30 #[.agg #[.int .i64 (C : Int), .int .i64 (R : Int)], .slice A fs.length c] w (RetFd C R fs w) := by
  obtain ⟨C', R', e1, e2, c1, c8, r1, r8, hrc⟩ := sheetE_zero hz
  obtain rfl : C = C' := by omega
  obtain rfl : R = R' := by omega
  clear e1 e2
  have CS : Hid (∀ W, Calls Try.prog 54 #[.int .i64 (C : Int), .int .i64 (R : Int)] W (Same (.int .i64 0) W)) := Lib.hid fun W => by
    have := checkSheet_any (C : Int) (R : Int) W
    rwa [hz] at this
  have CF := Lib.hid fun W => flat_any C R W c8 r8
  have HG := Lib.hid (pile_good c1 r1 c8 r8 fs)
  have HF := Lib.hid h
  have HI := Lib.hid hI
  have hbig : fs.length ≤ 9223372036854775807 := by omega
  have it : ¬ (12 : Int) < (fs.length : Int) := by omega
  clear h hz hI
  go_enter Try.func30, Try.ntmps30
  go_wp2_with (first | (go_at_call 54; refine Calls.mono (CS.out _) ?_; rintro e w1 ⟨rfl, rfl⟩) | (go_at_call 55; refine Calls.mono (CF.out _) ?_; rintro e w1 ⟨B, e9, rows, rfl, hop, hx⟩; have HOP := Lib.hid hop; have HX := Lib.hid (Ext.trans (by repeat (first | exact Ext.refl _ | assumption | refine Ext.alloc ?_ _ | refine Ext.drew ?_ | refine Ext.drewN ?_ _ | (refine Ext.setCell ?_ (by simp <;> omega) _) | refine Ext.trans ?_ (by assumption))) hx); simp only [plV]; clear hop hx))
  have HXW : Hid (Ext w w1) := Lib.hid (Ext.of_alloc HX.out)
  have hok0 : OkP (flatP C R) := (HG.out 0 (fun j hj => absurd hj (by omega))).1.okp (by omega)
  have HFD0 : Hid (Fd w (w1.alloc (.cells #[.int .i64 ((flatP C R).C : Int), .int .i64 ((flatP C R).R : Int), .slice B rows.length e9] 123)) w1.heap.size (pileTo (flatP C R) fs 0) B e9 rows) := Lib.hid
    ⟨HXW.out.alloc _, (HOP.out.pr (by have e : rows.length = (flatP C R).at_.length := by rw [← HOP.out.ls, List.length_map]
                                      have := hok0.len
                                      have := Nat.mul_le_mul hok0.r8 hok0.c8
                                      omega) (hok0.all c1)).ext ((Ext.refl w1).alloc _), Blk.new _ _ _⟩
  have HPBL : Hid (w.heap.size ≤ w1.heap.size) := Lib.hid HXW.out.size
  clear hok0 HOP HX
  generalize (w1.alloc (.cells #[.int .i64 ((flatP C R).C : Int), .int .i64 ((flatP C R).R : Int), .slice B rows.length e9] 123)) = w2 at *
  generalize w1.heap.size = pb at *
  go_loopw [30, 9, 10, 11] (fun v30 _ _ _ wr => ∃ (i : Nat) (A' : Option Addr) (d' : Nat) (rows' : List SLf), i ≤ fs.length ∧ v30 = .int .i64 (i : Int) ∧ Hid (Fd w wr pb (pileTo (flatP C R) fs i) A' d' rows') ∧ Hid (∀ j, j < i → errAt C R fs j = 0)) (fun v30 _ _ _ _ => fs.length - (intOf v30).toNat)
  case atStart => exact ⟨0, B, e9, rows, Nat.zero_le _, rfl, HFD0, Lib.hid fun j hj => absurd hj (by omega)⟩
  case round =>
    obtain ⟨i, A', d', rows', hi, rfl, HFD, HE⟩ := hrel
    clear HFD0
    obtain ⟨hgp, hgC, hgR⟩ := HG.out i HE.out
    have HOK := Lib.hid (hgp.okp (by omega))
    by_cases hlt : i < fs.length
    case pos =>
      have ii : (i : Int) < (fs.length : Int) := by omega
      obtain ⟨b, off, rfl, hbw, c0, c1⟩ := (HF.out.ext HFD.out.ext).at_ hlt
      have hee : errAt C R fs i = foldE (pileTo (flatP C R) fs i).C (pileTo (flatP C R) fs i).R (fs.getD i (0, 0)).1 (fs.getD i (0, 0)).2 := by unfold errAt; rw [hgC, hgR]
      have HNX : Hid (pileTo (flatP C R) fs (i + 1) = foldP (pileTo (flatP C R) fs i) (fs.getD i (0, 0)).1 (fs.getD i (0, 0)).2) := Lib.hid rfl
      have HI2 := Lib.hid (HI.out i hlt)
      by_cases he : errAt C R fs i = 0
      case pos =>
        -- BEGIN A
        have HE2 : Hid (∀ j, j < i + 1 → errAt C R fs j = 0) := Lib.hid fun j hj => by
          by_cases h : j < i
          · exact HE.out j h
          · obtain rfl : j = i := by omega
            exact he
        have hg2 := (HG.out (i + 1) HE2.out).1
        have HPL : Hid (pb < wr.heap.size) := Lib.hid HFD.out.pp.lt
        have HOK2 := Lib.hid (hg2.okp (by omega))
        have HC2 := Lib.hid hg2.c1
        rw [hee] at he
        have CFO := Lib.hid fun W h => fold_ok (pileTo (flatP C R) fs i) A' d' rows' (fs.getD i (0, 0)).1 (fs.getD i (0, 0)).2 W h HOK.out he
        unfold plV at CFO
        rw [← HNX.out] at CFO
        obtain ⟨k0, k1, k2, kl⟩ := HFD.out.pp.c3
        clear hee he hgp hgC hgR HNX hg2
        generalize hp2 : pileTo (flatP C R) fs (i + 1) = p2 at *
        have HP2 := Lib.hid hp2
        clear hp2
        generalize pileTo (flatP C R) fs i = p1 at *
        generalize (fs.getD i (0, 0)).1 = kk at *
        generalize (fs.getD i (0, 0)).2 = nn at *
        go_wp2_with (first | (go_at_call 56; refine Calls.mono (CFO.out _ (HFD.out.pr.ext (by repeat (first | exact Ext.refl _ | assumption | refine Ext.alloc ?_ _ | refine Ext.drew ?_ | refine Ext.drewN ?_ _ | (refine Ext.setCell ?_ (by simp <;> omega) _) | refine Ext.trans ?_ (by assumption))))) ?_; rintro e w3 ⟨B2, d2, rows2, rfl, hop, hx⟩; have HOP := Lib.hid hop; have HX3 := Lib.hid (Ext.trans (by repeat (first | exact Ext.refl _ | assumption | refine Ext.alloc ?_ _ | refine Ext.drew ?_ | refine Ext.drewN ?_ _ | (refine Ext.setCell ?_ (by simp <;> omega) _) | refine Ext.trans ?_ (by assumption))) hx : Ext wr w3); have HPP := Lib.hid (HFD.out.pp.ext HX3.out); obtain ⟨r0, r1, r2, rl⟩ := HPP.out.c3; have F := HPP.out.frozen; simp only [plV]; clear hop hx))
        go_roundw
        case rel => exact ⟨i + 1, B2, d2, rows2, by omega, by go_num, Lib.hid (by rw [HP2.out]; exact Fd.store (HFD.out.ext.trans HX3.out) HPBL.out HPP.out HOP.out (by have := HPL.out; simp; omega) HOK2.out HC2.out), HE2⟩
        case measure => simp [intOf]; omega
        -- END A
      case neg =>
        -- BEGIN B
        have hne := he
        rw [hee] at he
        have CFO := Lib.hid fun W => fold_bad (pileTo (flatP C R) fs i) A' d' rows' (fs.getD i (0, 0)).1 (fs.getD i (0, 0)).2 W HI2.out HOK.out.c8 HOK.out.r8 he
        unfold plV at CFO
        rw [← hee] at CFO
        have e0 : (errAt C R fs i != 0) = true := by simpa using hne
        have HNE := Lib.hid hne
        obtain ⟨k0, k1, k2, kl⟩ := HFD.out.pp.c3
        clear hee he hgp hgC hgR HNX hne
        generalize hz : errAt C R fs i = z at *
        have HZ := Lib.hid hz
        clear hz
        generalize pileTo (flatP C R) fs i = p1 at *
        generalize (fs.getD i (0, 0)).1 = kk at *
        generalize (fs.getD i (0, 0)).2 = nn at *
        go_wp2_with (first | (go_at_call 56; refine Calls.mono (CFO.out _) ?_; rintro e w3 ⟨rfl, hx⟩; have HX3 := Lib.hid (Ext.trans (by repeat (first | exact Ext.refl _ | assumption | refine Ext.alloc ?_ _ | refine Ext.drew ?_ | refine Ext.drewN ?_ _ | (refine Ext.setCell ?_ (by simp <;> omega) _) | refine Ext.trans ?_ (by assumption))) hx : Ext wr w3); have HPP := Lib.hid (HFD.out.pp.ext HX3.out); obtain ⟨r0, r1, r2, rl⟩ := HPP.out.c3; have F := HPP.out.frozen; simp only [plV]; clear hx))
        refine bodyPost_ret (v := .tuple #[.slice none 0 0, .int .i64 (i : Int), .int .i64 z]) (by simp [results, Try.results30, go_sem]) rfl (.inl ⟨i, hlt, HE.out, by rw [HZ.out]; exact HNE.out, by rw [HZ.out]; exact ⟨rfl, setCell3 (HFD.out.ext.trans HX3.out) HPBL.out _ _ _⟩⟩)
        -- END B
    case neg =>
      obtain rfl : i = fs.length := by omega
      have iE : ¬ (fs.length : Int) < (fs.length : Int) := by omega
      obtain ⟨k0, k1, k2, kl⟩ := HFD.out.pp.c3
      have hrl : rows'.length = (pileTo (flatP C R) fs fs.length).at_.length := HFD.out.pr.len
      have HAL := Lib.hid HE.out
      have hrb : rows'.length ≤ 9223372036854775807 := by
        have h1 := HOK.out.len
        have h2 := Nat.mul_le_mul HOK.out.r8 HOK.out.c8
        omega
      clear hi hlt
      by_cases h1 : 1 < rows'.length
      case pos =>
        -- BEGIN C
        have i1 : (1 : Int) < (rows'.length : Int) := by omega
        have HRL : Hid (1 < (pileTo (flatP C R) fs fs.length).at_.length) := Lib.hid (by omega)
        clear hrl hgp hgC hgR h1
        go_wp2
        refine bodyPost_ret (v := .tuple #[.slice none 0 0, .int .i64 (fs.length : Int), .int .i64 25]) (by simp [results, Try.results30, go_sem]) rfl (.inr (.inl ⟨HAL.out, HRL.out, rfl, HFD.out.ext⟩))
        -- END C
      case neg =>
        -- BEGIN D
        have i1 : ¬ (1 : Int) < (rows'.length : Int) := by omega
        have hpos : 0 < rows'.length := by
          have h2 := hgp.len
          have h3 := Nat.mul_le_mul hgp.r1 hgp.c1
          omega
        have i2 : (0 : Int) < (rows'.length : Int) := by omega
        have HRL : Hid ((pileTo (flatP C R) fs fs.length).at_.length ≤ 1) := Lib.hid (by omega)
        obtain ⟨b, off, s, rfl, hbw, hcell, hs, hlf⟩ := HFD.out.pr.at_ hpos
        rw [Nat.add_zero] at hcell
        obtain ⟨sA, sc, sl⟩ := s
        simp only [SLf.val] at hcell hs hlf
        have HS := Lib.hid hs
        have HLF := Lib.hid hlf
        clear hrl hgp hgC hgR h1 hs hlf
        go_wp2
        refine bodyPost_ret (v := .tuple #[.slice sA sl.length sc, .int .i64 0, .int .i64 0]) (by simp [results, Try.results30, go_sem]) rfl (.inr (.inr ⟨HAL.out, HRL.out, by rw [← HS.out]; exact ⟨sA, sc, rfl, HLF.out, HFD.out.ext⟩⟩))
        -- END D
end Go.Proofs.Ytniiahddpdiocaa
