/-
  Walk: the limits of the statements on rules (short, Short).
-/
import Derived.Test.YtccdnieoaejgdaaGreatDoorT2AS
set_option linter.unusedVariables false
set_option linter.unusedSimpArgs false
set_option linter.unusedSectionVars false
namespace Go.Proofs.YtccdnieoaejgdaaGreatDoor
open Go.RowKit Go.Lib

def shortB (l : List ByteArray) (few most : Nat) : Bool := !(decide (few < l.length) && decide (l.length ≤ most)) && !decide (most + 2 < l.length) && l.all fun s => decide (s.size ≤ 40)
theorem short_good {l : List ByteArray} {few most : Nat} (h : shortB l few most = true) : (l.length ≤ few ∨ most < l.length) ∧ l.length ≤ most + 2 ∧ ∀ k, k < l.length → (l.getD k ByteArray.empty).size ≤ 40 := by
  unfold shortB at h
  simp only [Bool.and_eq_true, Bool.not_eq_true', Bool.and_eq_false_iff, decide_eq_false_iff_not, List.all_eq_true, decide_eq_true_eq] at h
  refine ⟨by omega, by omega, fun k hk => ?_⟩
  rw [List.getD_eq_getElem?_getD, List.getElem?_eq_getElem hk]
  exact h.2 _ (List.getElem_mem _)
theorem short_all {l : List ByteArray} {few most : Nat} (h1 : ¬ (few < l.length ∧ l.length ≤ most)) (h2 : ¬ most + 2 < l.length) (h : ∀ q, q < l.length → (l.getD q ByteArray.empty).size ≤ 40) : shortB l few most = true := by
  unfold shortB
  simp only [Bool.and_eq_true, Bool.not_eq_true', Bool.and_eq_false_iff, decide_eq_false_iff_not, List.all_eq_true, decide_eq_true_eq]
  refine ⟨⟨by omega, h2⟩, fun s hs => ?_⟩
  obtain ⟨q, hq, rfl⟩ := List.mem_iff_getElem.1 hs
  have := h q hq
  rwa [List.getD_eq_getElem?_getD, List.getElem?_eq_getElem hq] at this
theorem short_big {l : List ByteArray} {few most k : Nat} (hk : k < l.length) (h : 40 < (l.getD k ByteArray.empty).size) : shortB l few most = false := by
  cases hs : shortB l few most with
  | false => rfl
  | true => have := (short_good hs).2.2 k hk; omega
set_option maxRecDepth 100000 in
set_option maxHeartbeats 4000000 in
theorem short_any (A : Option Addr) (c : Nat) (l : List ByteArray) (few most : Nat) (w : World) (h : RS w A l.length l) (hm : few ≤ most ∧ most ≤ 1000) :
    Calls Tryz.prog 42 #[.slice A l.length c, .int .i64 (few : Int), .int .i64 (most : Int)] w (Ret (.bool (shortB l few most)) w) := by
  have hbig := h.2.1
  have HR := Lib.hid h; clear h
  have u1 : IntKind.i64.wrap ((most : Int) + 2) = (most : Int) + 2 := IntWalk.i64_in _ (by omega)
  have HBG0 : Hid (∀ k, k < l.length → 40 < (l.getD k ByteArray.empty).size → shortB l few most = false) := Lib.hid fun k hk h => short_big hk h
  by_cases h1 : few < l.length
  case pos =>
    have i1 : (few : Int) < (l.length : Int) := by omega
    by_cases h2 : l.length ≤ most
    case pos =>
      have i2 : (l.length : Int) ≤ (most : Int) := by omega
      have HE : Hid (shortB l few most = false) := Lib.hid (by unfold shortB; rw [decide_eq_true h1, decide_eq_true h2]; rfl)
      clear HBG0
      generalize shortB l few most = out at *
      go_enter Tryz.func42, Tryz.ntmps42
      go_wp2
      go_ret
      exact Ret.mk' (by rw [HE.out]; rfl) (by repeat (first | exact Ext.refl _ | assumption | refine Ext.alloc ?_ _ | refine Ext.drew ?_ | refine Ext.drewN ?_ _ | (refine Ext.setCell ?_ (by simp <;> omega) _) | refine Ext.trans ?_ (by assumption)))
    case neg =>
      have i2 : ¬ (l.length : Int) ≤ (most : Int) := by omega
      by_cases h3 : most + 2 < l.length
      case pos =>
        have i3 : (most : Int) + 2 < (l.length : Int) := by omega
        have HE : Hid (shortB l few most = false) := Lib.hid (by unfold shortB; rw [decide_eq_true h3]; simp)
        clear HBG0
        generalize shortB l few most = out at *
        go_enter Tryz.func42, Tryz.ntmps42
        go_wp2
        go_ret
        exact Ret.mk' (by rw [HE.out]; rfl) (by repeat (first | exact Ext.refl _ | assumption | refine Ext.alloc ?_ _ | refine Ext.drew ?_ | refine Ext.drewN ?_ _ | (refine Ext.setCell ?_ (by simp <;> omega) _) | refine Ext.trans ?_ (by assumption)))
      case neg =>
        have i3 : ¬ (most : Int) + 2 < (l.length : Int) := by omega
        have HGD0 := Lib.hid (short_all (l := l) (few := few) (most := most) (fun h => h2 h.2) h3)
        generalize shortB l few most = out at *
        go_enter Tryz.func42, Tryz.ntmps42
        go_upto_region 4 with fail
        go_loopw [7] (fun v7 wr => ∃ k : Nat, k ≤ l.length ∧ v7 = .int .i64 (k : Int) ∧ w = wr ∧ Hid (∀ q, q < k → (l.getD q ByteArray.empty).size ≤ 40)) (fun v7 _ => l.length - (intOf v7).toNat)
        case atStart => exact ⟨0, Nat.zero_le _, rfl, rfl, Lib.hid (fun q hq => absurd hq (by omega))⟩
        case round =>
          obtain ⟨k, hk, rfl, rfl, HQ⟩ := hrel
          by_cases hlt : k < l.length
          case pos =>
            have ik : (k : Int) < (l.length : Int) := by omega
            obtain ⟨b, off, rfl, hbw, hcell⟩ := HR.out.2.2 (by omega)
            have ck := hcell k hlt
            clear hcell
            have HBG := Lib.hid (HBG0.out k hlt)
            have HNX : Hid ((l.getD k ByteArray.empty).size ≤ 40 → ∀ q, q < k + 1 → (l.getD q ByteArray.empty).size ≤ 40) := Lib.hid fun h q hq => by
              rcases Nat.lt_or_ge q k with h9 | h9
              · exact HQ.out q h9
              · obtain rfl : q = k := by omega
                exact h
            generalize l.getD k ByteArray.empty = t at *
            clear HQ HBG0
            by_cases ht : 40 < t.size
            case pos =>
              have it : 40 < (t.size : Int) := by omega
              have HE := Lib.hid (HBG.out ht)
              clear HNX HBG ht
              go_wp2
              go_ret
              exact Ret.mk' (by rw [HE.out]; rfl) (by repeat (first | exact Ext.refl _ | assumption | refine Ext.alloc ?_ _ | refine Ext.drew ?_ | refine Ext.drewN ?_ _ | (refine Ext.setCell ?_ (by simp <;> omega) _) | refine Ext.trans ?_ (by assumption)))
            case neg =>
              have it : ¬ 40 < (t.size : Int) := by omega
              have HN2 := Lib.hid (HNX.out (by omega))
              clear HNX HBG ht
              go_wp2
              go_roundw
              case rel => exact ⟨k + 1, by omega, by go_num, by trivial, HN2⟩
              case measure => simp [intOf]; omega
          case neg =>
            obtain rfl : k = l.length := by omega
            have ik : ¬ (l.length : Int) < (l.length : Int) := by omega
            have HE := Lib.hid (HGD0.out HQ.out)
            clear HBG0 HGD0 HQ
            go_wp2
            go_ret
            exact Ret.mk' (by rw [HE.out]; rfl) (by repeat (first | exact Ext.refl _ | assumption | refine Ext.alloc ?_ _ | refine Ext.drew ?_ | refine Ext.drewN ?_ _ | (refine Ext.setCell ?_ (by simp <;> omega) _) | refine Ext.trans ?_ (by assumption)))
  case neg =>
    have i1 : ¬ (few : Int) < (l.length : Int) := by omega
    have i3 : ¬ (most : Int) + 2 < (l.length : Int) := by omega
    have HGD0 := Lib.hid (short_all (l := l) (few := few) (most := most) (fun h => h1 h.1) (by omega))
    generalize shortB l few most = out at *
    go_enter Tryz.func42, Tryz.ntmps42
    go_upto_region 4 with fail
    go_loopw [7] (fun v7 wr => ∃ k : Nat, k ≤ l.length ∧ v7 = .int .i64 (k : Int) ∧ w = wr ∧ Hid (∀ q, q < k → (l.getD q ByteArray.empty).size ≤ 40)) (fun v7 _ => l.length - (intOf v7).toNat)
    case atStart => exact ⟨0, Nat.zero_le _, rfl, rfl, Lib.hid (fun q hq => absurd hq (by omega))⟩
    case round =>
      obtain ⟨k, hk, rfl, rfl, HQ⟩ := hrel
      by_cases hlt : k < l.length
      case pos =>
        have ik : (k : Int) < (l.length : Int) := by omega
        obtain ⟨b, off, rfl, hbw, hcell⟩ := HR.out.2.2 (by omega)
        have ck := hcell k hlt
        clear hcell
        have HBG := Lib.hid (HBG0.out k hlt)
        have HNX : Hid ((l.getD k ByteArray.empty).size ≤ 40 → ∀ q, q < k + 1 → (l.getD q ByteArray.empty).size ≤ 40) := Lib.hid fun h q hq => by
          rcases Nat.lt_or_ge q k with h9 | h9
          · exact HQ.out q h9
          · obtain rfl : q = k := by omega
            exact h
        generalize l.getD k ByteArray.empty = t at *
        clear HQ HBG0
        by_cases ht : 40 < t.size
        case pos =>
          have it : 40 < (t.size : Int) := by omega
          have HE := Lib.hid (HBG.out ht)
          clear HNX HBG ht
          go_wp2
          go_ret
          exact Ret.mk' (by rw [HE.out]; rfl) (by repeat (first | exact Ext.refl _ | assumption | refine Ext.alloc ?_ _ | refine Ext.drew ?_ | refine Ext.drewN ?_ _ | (refine Ext.setCell ?_ (by simp <;> omega) _) | refine Ext.trans ?_ (by assumption)))
        case neg =>
          have it : ¬ 40 < (t.size : Int) := by omega
          have HN2 := Lib.hid (HNX.out (by omega))
          clear HNX HBG ht
          go_wp2
          go_roundw
          case rel => exact ⟨k + 1, by omega, by go_num, by trivial, HN2⟩
          case measure => simp [intOf]; omega
      case neg =>
        obtain rfl : k = l.length := by omega
        have ik : ¬ (l.length : Int) < (l.length : Int) := by omega
        have HE := Lib.hid (HGD0.out HQ.out)
        clear HBG0 HGD0 HQ
        go_wp2
        go_ret
        exact Ret.mk' (by rw [HE.out]; rfl) (by repeat (first | exact Ext.refl _ | assumption | refine Ext.alloc ?_ _ | refine Ext.drew ?_ | refine Ext.drewN ?_ _ | (refine Ext.setCell ?_ (by simp <;> omega) _) | refine Ext.trans ?_ (by assumption)))
def shortU (r : RU) : Bool := shortB r.pats 6 60 && shortB r.excs 6 40 && shortB r.bars 6 40
theorem ShortU.of {r : RU} (h : shortU r = true) : ShortU r := by
  unfold shortU at h
  simp only [Bool.and_eq_true] at h
  obtain ⟨⟨h1, h2⟩, h3⟩ := h
  have q1 := short_good h1; have q2 := short_good h2; have q3 := short_good h3
  exact ⟨⟨by omega, fun k hk => by have := q1.2.2 k hk; omega⟩, ⟨by omega, fun k hk => by have := q2.2.2 k hk; omega⟩, ⟨by omega, fun k hk => by have := q3.2.2 k hk; omega⟩⟩
set_option maxRecDepth 100000 in
set_option maxHeartbeats 4000000 in
theorem Short_any (r : RU) (a : RuA) (w : World) (h : RuR w a r) : Calls Tryz.prog 14 #[r.val a] w (Ret (.bool (shortU r)) w) := by
  have C1 := Lib.hid fun W (hx : Ext w W) => short_any a.pa a.pc r.pats 6 60 W (h.pats.ext hx) (by omega)
  have C2 := Lib.hid fun W (hx : Ext w W) => short_any a.ea a.ec r.excs 6 40 W (h.excs.ext hx) (by omega)
  have C3 := Lib.hid fun W (hx : Ext w W) => short_any a.ba a.bc r.bars 6 40 W (h.bars.ext hx) (by omega)
  have HE : Hid (shortU r = (shortB r.pats 6 60 && shortB r.excs 6 40 && shortB r.bars 6 40)) := Lib.hid rfl
  generalize shortU r = out at *
  unfold RU.val
  clear h
  generalize shortB r.pats 6 60 = b1 at *
  generalize shortB r.excs 6 40 = b2 at *
  generalize shortB r.bars 6 40 = b3 at *
  have HB : Hid (∀ W, Ext (w.alloc (.cells #[.slice a.pa r.pats.length a.pc, .slice a.ea r.excs.length a.ec, .slice a.ba r.bars.length a.bc, .int .i64 r.left, .int .i64 r.right] 24)) W → W.cell? ⟨w.heap.size, 0, none⟩ = some (.slice a.pa r.pats.length a.pc) ∧ W.cell? ⟨w.heap.size, 1, none⟩ = some (.slice a.ea r.excs.length a.ec) ∧ W.cell? ⟨w.heap.size, 2, none⟩ = some (.slice a.ba r.bars.length a.bc) ∧ w.heap.size < W.heap.size) := Lib.hid fun W hx => by
    have h := (Blk.new w 24 #[.slice a.pa r.pats.length a.pc, .slice a.ea r.excs.length a.ec, .slice a.ba r.bars.length a.bc, .int .i64 r.left, .int .i64 r.right]).ext hx
    exact ⟨h.cell 0 _ rfl, h.cell 1 _ rfl, h.cell 2 _ rfl, h.lt⟩
  cases b1
  case false =>
    go_enter Tryz.func14, Tryz.ntmps14
    go_wp2_with (first | (have hq := HX2; clear hq; go_at_call 42; refine Calls.mono (C3.out _ (HX2.out.trans (by repeat (first | exact Ext.refl _ | assumption | refine Ext.alloc ?_ _ | refine Ext.drew ?_ | refine Ext.drewN ?_ _ | (refine Ext.setCell ?_ (by simp <;> omega) _) | refine Ext.trans ?_ (by assumption))))) ?_; rintro e w3 ⟨rfl, hx⟩; have HX3 := Lib.hid (HX2.out.trans (Ext.trans (by repeat (first | exact Ext.refl _ | assumption | refine Ext.alloc ?_ _ | refine Ext.drew ?_ | refine Ext.drewN ?_ _ | (refine Ext.setCell ?_ (by simp <;> omega) _) | refine Ext.trans ?_ (by assumption))) hx)); clear hx) | (have hq := HX1; clear hq; go_at_call 42; refine Calls.mono (C2.out _ (HX1.out.trans (by repeat (first | exact Ext.refl _ | assumption | refine Ext.alloc ?_ _ | refine Ext.drew ?_ | refine Ext.drewN ?_ _ | (refine Ext.setCell ?_ (by simp <;> omega) _) | refine Ext.trans ?_ (by assumption))))) ?_; rintro e w2 ⟨rfl, hx⟩; have HX2 := Lib.hid (HX1.out.trans (Ext.trans (by repeat (first | exact Ext.refl _ | assumption | refine Ext.alloc ?_ _ | refine Ext.drew ?_ | refine Ext.drewN ?_ _ | (refine Ext.setCell ?_ (by simp <;> omega) _) | refine Ext.trans ?_ (by assumption))) hx)); obtain ⟨y0, y1, y2, yl⟩ := HBC.out _ hx; clear hx) | (go_at_call 42; refine Calls.mono (C1.out _ (by repeat (first | exact Ext.refl _ | assumption | refine Ext.alloc ?_ _ | refine Ext.drew ?_ | refine Ext.drewN ?_ _ | (refine Ext.setCell ?_ (by simp <;> omega) _) | refine Ext.trans ?_ (by assumption)))) ?_; rintro e w1 ⟨rfl, hx⟩; have HX1 := Lib.hid (Ext.trans (a := w) (by repeat (first | exact Ext.refl _ | assumption | refine Ext.alloc ?_ _ | refine Ext.drew ?_ | refine Ext.drewN ?_ _ | (refine Ext.setCell ?_ (by simp <;> omega) _) | refine Ext.trans ?_ (by assumption))) hx); obtain ⟨y0, y1, y2, yl⟩ := HB.out _ hx; have HBC := Lib.hid fun W h => HB.out W (hx.trans h); clear hx))
    go_ret
    exact Ret.mk' (by rw [HE.out]; rfl) HX1.out
  case true =>
    cases b2
    case false =>
      go_enter Tryz.func14, Tryz.ntmps14
      go_wp2_with (first | (have hq := HX2; clear hq; go_at_call 42; refine Calls.mono (C3.out _ (HX2.out.trans (by repeat (first | exact Ext.refl _ | assumption | refine Ext.alloc ?_ _ | refine Ext.drew ?_ | refine Ext.drewN ?_ _ | (refine Ext.setCell ?_ (by simp <;> omega) _) | refine Ext.trans ?_ (by assumption))))) ?_; rintro e w3 ⟨rfl, hx⟩; have HX3 := Lib.hid (HX2.out.trans (Ext.trans (by repeat (first | exact Ext.refl _ | assumption | refine Ext.alloc ?_ _ | refine Ext.drew ?_ | refine Ext.drewN ?_ _ | (refine Ext.setCell ?_ (by simp <;> omega) _) | refine Ext.trans ?_ (by assumption))) hx)); clear hx) | (have hq := HX1; clear hq; go_at_call 42; refine Calls.mono (C2.out _ (HX1.out.trans (by repeat (first | exact Ext.refl _ | assumption | refine Ext.alloc ?_ _ | refine Ext.drew ?_ | refine Ext.drewN ?_ _ | (refine Ext.setCell ?_ (by simp <;> omega) _) | refine Ext.trans ?_ (by assumption))))) ?_; rintro e w2 ⟨rfl, hx⟩; have HX2 := Lib.hid (HX1.out.trans (Ext.trans (by repeat (first | exact Ext.refl _ | assumption | refine Ext.alloc ?_ _ | refine Ext.drew ?_ | refine Ext.drewN ?_ _ | (refine Ext.setCell ?_ (by simp <;> omega) _) | refine Ext.trans ?_ (by assumption))) hx)); obtain ⟨y0, y1, y2, yl⟩ := HBC.out _ hx; clear hx) | (go_at_call 42; refine Calls.mono (C1.out _ (by repeat (first | exact Ext.refl _ | assumption | refine Ext.alloc ?_ _ | refine Ext.drew ?_ | refine Ext.drewN ?_ _ | (refine Ext.setCell ?_ (by simp <;> omega) _) | refine Ext.trans ?_ (by assumption)))) ?_; rintro e w1 ⟨rfl, hx⟩; have HX1 := Lib.hid (Ext.trans (a := w) (by repeat (first | exact Ext.refl _ | assumption | refine Ext.alloc ?_ _ | refine Ext.drew ?_ | refine Ext.drewN ?_ _ | (refine Ext.setCell ?_ (by simp <;> omega) _) | refine Ext.trans ?_ (by assumption))) hx); obtain ⟨y0, y1, y2, yl⟩ := HB.out _ hx; have HBC := Lib.hid fun W h => HB.out W (hx.trans h); clear hx))
      go_ret
      exact Ret.mk' (by rw [HE.out]; rfl) HX2.out
    case true =>
      go_enter Tryz.func14, Tryz.ntmps14
      go_wp2_with (first | (have hq := HX2; clear hq; go_at_call 42; refine Calls.mono (C3.out _ (HX2.out.trans (by repeat (first | exact Ext.refl _ | assumption | refine Ext.alloc ?_ _ | refine Ext.drew ?_ | refine Ext.drewN ?_ _ | (refine Ext.setCell ?_ (by simp <;> omega) _) | refine Ext.trans ?_ (by assumption))))) ?_; rintro e w3 ⟨rfl, hx⟩; have HX3 := Lib.hid (HX2.out.trans (Ext.trans (by repeat (first | exact Ext.refl _ | assumption | refine Ext.alloc ?_ _ | refine Ext.drew ?_ | refine Ext.drewN ?_ _ | (refine Ext.setCell ?_ (by simp <;> omega) _) | refine Ext.trans ?_ (by assumption))) hx)); clear hx) | (have hq := HX1; clear hq; go_at_call 42; refine Calls.mono (C2.out _ (HX1.out.trans (by repeat (first | exact Ext.refl _ | assumption | refine Ext.alloc ?_ _ | refine Ext.drew ?_ | refine Ext.drewN ?_ _ | (refine Ext.setCell ?_ (by simp <;> omega) _) | refine Ext.trans ?_ (by assumption))))) ?_; rintro e w2 ⟨rfl, hx⟩; have HX2 := Lib.hid (HX1.out.trans (Ext.trans (by repeat (first | exact Ext.refl _ | assumption | refine Ext.alloc ?_ _ | refine Ext.drew ?_ | refine Ext.drewN ?_ _ | (refine Ext.setCell ?_ (by simp <;> omega) _) | refine Ext.trans ?_ (by assumption))) hx)); obtain ⟨y0, y1, y2, yl⟩ := HBC.out _ hx; clear hx) | (go_at_call 42; refine Calls.mono (C1.out _ (by repeat (first | exact Ext.refl _ | assumption | refine Ext.alloc ?_ _ | refine Ext.drew ?_ | refine Ext.drewN ?_ _ | (refine Ext.setCell ?_ (by simp <;> omega) _) | refine Ext.trans ?_ (by assumption)))) ?_; rintro e w1 ⟨rfl, hx⟩; have HX1 := Lib.hid (Ext.trans (a := w) (by repeat (first | exact Ext.refl _ | assumption | refine Ext.alloc ?_ _ | refine Ext.drew ?_ | refine Ext.drewN ?_ _ | (refine Ext.setCell ?_ (by simp <;> omega) _) | refine Ext.trans ?_ (by assumption))) hx); obtain ⟨y0, y1, y2, yl⟩ := HB.out _ hx; have HBC := Lib.hid fun W h => HB.out W (hx.trans h); clear hx))
      go_ret
      exact Ret.mk' (by rw [HE.out]; rfl) HX3.out
end Go.Proofs.YtccdnieoaejgdaaGreatDoor
