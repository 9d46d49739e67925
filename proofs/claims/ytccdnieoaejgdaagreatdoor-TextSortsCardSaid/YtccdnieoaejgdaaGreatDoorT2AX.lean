/-
  Walk: the rules of chapter 2's examples.
  Walk: two lists of texts are equal (Texts).
  Walk: ruled, Hyphens, LevelsOf.
  Walks: a fount and rules are opened (open, openWord).
  Walks: a fount, rules and a word are opened (openWord).
-/
import Derived.Test.YtccdnieoaejgdaaGreatDoorT2AS
import Derived.Test.YtccdnieoaejgdaaGreatDoorT2AD
import Derived.Test.YtccdnieoaejgdaaGreatDoorT2AT
import Derived.Test.YtccdnieoaejgdaaGreatDoorT2AB
import Derived.Test.YtccdnieoaejgdaaGreatDoorT2AV
set_option linter.unusedVariables false
set_option linter.unusedSimpArgs false
set_option linter.unusedSectionVars false
namespace Go.Proofs.YtccdnieoaejgdaaGreatDoor
open Go.RowKit

def house : RU := ⟨[⟨#[97, 49, 98]⟩, ⟨#[50, 98, 108]⟩, ⟨#[98, 51, 108]⟩], [], [⟨#[115, 104, 101, 108, 102, 124, 102, 117, 108]⟩], 2, 2⟩
/-- The call hands back rules that read as r. -/
def RetRu (r : RU) (w : World) (e : Ending) (w' : World) : Prop := ∃ a, e = .returned (r.val a) ∧ RuR w' a r ∧ Ext w w'
set_option maxRecDepth 100000 in
set_option maxHeartbeats 4000000 in
theorem house_any (w : World) : Calls Tryz.prog 61 #[] w (RetRu house w) := by
  go_enter Tryz.func61, Tryz.ntmps61
  go_wp2
  have h0 := ((Blk.new w 24 #[.slice (some ⟨w.heap.size + 1, 0, none⟩) 3 3, .slice none 0 0, .slice (some ⟨w.heap.size + 1 + 1, 0, none⟩) 1 1, .int .i64 2, .int .i64 2]).alloc (.cells #[.string ⟨#[97, 49, 98]⟩, .string ⟨#[50, 98, 108]⟩, .string ⟨#[98, 51, 108]⟩] 9)).alloc (.cells #[.string ⟨#[115, 104, 101, 108, 102, 124, 102, 117, 108]⟩] 9)
  have h1 := (Blk.new1 w (.cells #[.slice (some ⟨w.heap.size + 1, 0, none⟩) 3 3, .slice none 0 0, .slice (some ⟨w.heap.size + 1 + 1, 0, none⟩) 1 1, .int .i64 2, .int .i64 2] 24) 9 #[.string ⟨#[97, 49, 98]⟩, .string ⟨#[50, 98, 108]⟩, .string ⟨#[98, 51, 108]⟩]).alloc (.cells #[.string ⟨#[115, 104, 101, 108, 102, 124, 102, 117, 108]⟩] 9)
  have h2 := Blk.new2 w (.cells #[.slice (some ⟨w.heap.size + 1, 0, none⟩) 3 3, .slice none 0 0, .slice (some ⟨w.heap.size + 1 + 1, 0, none⟩) 1 1, .int .i64 2, .int .i64 2] 24) (.cells #[.string ⟨#[97, 49, 98]⟩, .string ⟨#[50, 98, 108]⟩, .string ⟨#[98, 51, 108]⟩] 9) 9 #[.string ⟨#[115, 104, 101, 108, 102, 124, 102, 117, 108]⟩]
  have g0 := h0.cell 0 _ rfl; have g1 := h0.cell 1 _ rfl; have g2 := h0.cell 2 _ rfl; have g3 := h0.cell 3 _ rfl; have g4 := h0.cell 4 _ rfl
  refine bodyPost_ret (v := house.val ⟨some ⟨w.heap.size + 1, 0, none⟩, 3, none, 0, some ⟨w.heap.size + 1 + 1, 0, none⟩, 1⟩) (by simp [results, Tryz.results61, go_sem, RU.val, house, g0, g1, g2, g3, g4]) rfl ?_
  refine ⟨_, rfl, ⟨⟨rfl, by decide, fun _ => ⟨_, 0, rfl, h1.lt, fun k hk => ?_⟩⟩, ⟨rfl, by decide, fun h => absurd h (by decide)⟩, ⟨rfl, by decide, fun _ => ⟨_, 0, rfl, h2.lt, fun k hk => ?_⟩⟩, by unfold I64; decide, by unfold I64; decide⟩, (by repeat (first | exact Ext.refl _ | assumption | refine Ext.alloc ?_ _ | refine Ext.drew ?_ | refine Ext.drewN ?_ _ | (refine Ext.setCell ?_ (by simp <;> omega) _) | refine Ext.trans ?_ (by assumption)))⟩
  · have hk : k < 3 := hk
    rcases (show k = 0 ∨ k = 1 ∨ k = 2 by omega) with rfl | rfl | rfl <;> exact h1.cell _ _ rfl
  · have hk : k < 1 := hk
    obtain rfl : k = 0 := by omega
    exact h2.cell _ _ rfl
end Go.Proofs.YtccdnieoaejgdaaGreatDoor
namespace Go.Proofs.YtccdnieoaejgdaaGreatDoor
open Go.RowKit

def sameST (xs ys : List ByteArray) (n : Nat) : Prop := ∀ j, j < n → xs.getD j ByteArray.empty = ys.getD j ByteArray.empty
theorem list_ext_getDS {xs ys : List ByteArray} (hl : xs.length = ys.length) (h : sameST xs ys xs.length) : xs = ys := by
  apply List.ext_getElem hl
  intro i h1 h2
  have := h i h1
  rwa [List.getD_eq_getElem?_getD, List.getD_eq_getElem?_getD, List.getElem?_eq_getElem h1, List.getElem?_eq_getElem h2] at this
set_option maxHeartbeats 1000000 in
theorem texts_any (A B : Option Addr) (c d : Nat) (xs ys : List ByteArray) (w : World) (hx : RS w A xs.length xs) (hy : RS w B ys.length ys) :
    Calls Tryz.prog 41 #[.slice A xs.length c, .slice B ys.length d] w (Ret (.bool (decide (xs = ys))) w) := by
  have hbx := hx.big; have hby := hy.big
  by_cases hl : xs.length = ys.length
  · have e1 : ((xs.length : Int) != (ys.length : Int)) = false := by simp [hl]
    have HL := Lib.hid hl; clear hl
    have HX := Lib.hid hx; have HY := Lib.hid hy; clear hx hy
    go_enter Tryz.func41, Tryz.ntmps41
    go_wp2
    go_loopw [5] (fun i wr => ∃ k : Nat, k ≤ xs.length ∧ i = .int .i64 k ∧ sameST xs ys k ∧ Ext w wr) (fun i _ => xs.length - (intOf i).toNat)
    case atStart => exact ⟨0, Nat.zero_le _, rfl, fun j hj => absurd hj (by omega), Ext.refl _⟩
    case round =>
      obtain ⟨k, hk, rfl, hs, hxt⟩ := hrel
      have HS := Lib.hid hs; clear hs
      by_cases hlt : k < xs.length
      · have hlt' : k < ys.length := by have := HL.out; omega
        obtain ⟨b, off, rfl, hbw, hcell⟩ := (HX.out.ext hxt).2.2 (by omega)
        obtain ⟨b', off', rfl, hbw', hcell'⟩ := (HY.out.ext hxt).2.2 (by omega)
        have c1 := hcell k hlt
        have c2 := hcell' k hlt'
        have i1 : (k : Int) < (xs.length : Int) := by omega
        have i2 : (k : Int) < (ys.length : Int) := by omega
        have HK : Hid (xs.getD k ByteArray.empty = ys.getD k ByteArray.empty → sameST xs ys (k + 1)) := Lib.hid (fun he j hj => by
          by_cases hj' : j < k
          · exact HS.out j hj'
          · obtain rfl : j = k := by omega
            exact he)
        have HD : Hid (xs.getD k ByteArray.empty ≠ ys.getD k ByteArray.empty → ¬ xs = ys) := Lib.hid (fun he hh => he (by rw [hh]))
        generalize xs.getD k ByteArray.empty = x at *
        generalize ys.getD k ByteArray.empty = y at *
        have HXT := Lib.hid hxt; clear hxt hcell hcell'
        by_cases he : x = y
        · subst he
          have e0 := str_eq_true x
          go_wp2
          go_quiet (fail)
          go_wp2
          go_roundw
          case rel => exact ⟨k + 1, by omega, by go_num, HK.out (by first | exact rfl | trivial), HXT.out.trans (by repeat (first | exact Ext.refl _ | assumption | refine Ext.alloc ?_ _ | refine Ext.drew ?_ | refine Ext.drewN ?_ _ | (refine Ext.setCell ?_ (by simp <;> omega) _) | refine Ext.trans ?_ (by assumption)))⟩
          case measure => simp [intOf]; omega
        · have e0 := str_eq_false he
          have HE := Lib.hid he; clear he
          go_wp2
          go_quiet (fail)
          go_wp2
          go_ret
          exact Ret.mk' (by rw [decide_eq_false (HD.out HE.out)]; rfl) (HXT.out.trans (by repeat (first | exact Ext.refl _ | assumption | refine Ext.alloc ?_ _ | refine Ext.drew ?_ | refine Ext.drewN ?_ _ | (refine Ext.setCell ?_ (by simp <;> omega) _) | refine Ext.trans ?_ (by assumption))))
      · obtain rfl : k = xs.length := by omega
        have HEQ := Lib.hid (list_ext_getDS HL.out HS.out)
        have HXT := Lib.hid hxt; clear hxt
        go_wp2
        go_ret
        exact Ret.mk' (by rw [decide_eq_true HEQ.out]; rfl) HXT.out
  · have e1 : ((xs.length : Int) != (ys.length : Int)) = true := by simp; omega
    have HL := Lib.hid hl; clear hl
    go_enter Tryz.func41, Tryz.ntmps41
    go_wp2
    go_ret
    exact Ret.mk' (by rw [decide_eq_false (fun hh => HL.out (by rw [hh]))]; rfl) (by repeat (first | exact Ext.refl _ | assumption | refine Ext.alloc ?_ _ | refine Ext.drew ?_ | refine Ext.drewN ?_ _ | (refine Ext.setCell ?_ (by simp <;> omega) _) | refine Ext.trans ?_ (by assumption)))


end Go.Proofs.YtccdnieoaejgdaaGreatDoor
namespace Go.Proofs.YtccdnieoaejgdaaGreatDoor
open Go.RowKit Go.Lib

/-- The error of rules and a word. -/
def ruledE (r : RU) (s : ByteArray) : Int := if (ruleE r).2 = 0 then (if wordB s = true then 0 else 3) else (ruleE r).2
def RetRd (r : RU) (a : RuA) (s : ByteArray) (w : World) (e : Ending) (w' : World) : Prop :=
  (ruledE r s = 0 ∧ ∃ rb PA pc me mb ne nb, e = .returned (.tuple #[.pointer (some ⟨rb, 0, none⟩), .int .i64 0]) ∧ RlR w' rb r a PA pc me mb ne nb ∧ Ext w w') ∨
  (ruledE r s ≠ 0 ∧ ∃ p, e = .returned (.tuple #[.pointer p, .int .i64 (ruledE r s)]) ∧ Ext w w')
set_option maxRecDepth 100000 in
set_option maxHeartbeats 4000000 in
theorem ruled_any (r : RU) (a : RuA) (s : ByteArray) (w : World) (hr : RuR w a r) (hs : ShortU r) (hz : s.size ≤ 1000000) : Calls Tryz.prog 62 #[r.val a, .string s] w (RetRd r a s w) := by
  have HR := Lib.hid hr
  have CR := Lib.hid fun W (h : RuR W a r) => rulerOf_any r a W h hs
  have CW := Lib.hid fun W => isWord_any s W (by omega)
  have HE : Hid (ruledE r s = if (ruleE r).2 = 0 then (if wordB s = true then 0 else 3) else (ruleE r).2) := Lib.hid rfl
  clear hr hs
  unfold RU.val at CR ⊢
  by_cases h0 : (ruleE r).2 = 0
  case pos =>
    have H0 := Lib.hid h0
    rw [if_pos h0] at HE
    clear h0
    cases hw : wordB s
    case false =>
      rw [hw] at CW HE
      go_enter Tryz.func62, Tryz.ntmps62
      go_wp2_with (first | (go_at_call 106; refine Calls.mono (CR.out _ (HR.out.ext (by repeat (first | exact Ext.refl _ | assumption | refine Ext.alloc ?_ _ | refine Ext.drew ?_ | refine Ext.drewN ?_ _ | (refine Ext.setCell ?_ (by simp <;> omega) _) | refine Ext.trans ?_ (by assumption))))) ?_; rintro e w1 (⟨_, rb, PA, pc, me, mb, ne, nb, rfl, hrl, hx⟩ | ⟨hn, _⟩); rotate_left 1; (exact absurd H0.out hn); have HRL := Lib.hid hrl; have HX1 := Lib.hid hx; clear hrl hx) | (go_at_call 69; refine Calls.mono (CW.out _) ?_; rintro e w2 ⟨rfl, hx⟩; have HX2 := Lib.hid hx; clear hx))
      go_ret2
      exact .inr ⟨by rw [HE.out]; decide, _, by rw [HE.out]; rfl, (Ext.trans (by repeat (first | exact Ext.refl _ | assumption | refine Ext.alloc ?_ _ | refine Ext.drew ?_ | refine Ext.drewN ?_ _ | (refine Ext.setCell ?_ (by simp <;> omega) _) | refine Ext.trans ?_ (by assumption))) HX1.out).trans HX2.out⟩
    case true =>
      rw [hw] at CW HE
      go_enter Tryz.func62, Tryz.ntmps62
      go_wp2_with (first | (go_at_call 106; refine Calls.mono (CR.out _ (HR.out.ext (by repeat (first | exact Ext.refl _ | assumption | refine Ext.alloc ?_ _ | refine Ext.drew ?_ | refine Ext.drewN ?_ _ | (refine Ext.setCell ?_ (by simp <;> omega) _) | refine Ext.trans ?_ (by assumption))))) ?_; rintro e w1 (⟨_, rb, PA, pc, me, mb, ne, nb, rfl, hrl, hx⟩ | ⟨hn, _⟩); rotate_left 1; (exact absurd H0.out hn); have HRL := Lib.hid hrl; have HX1 := Lib.hid hx; clear hrl hx) | (go_at_call 69; refine Calls.mono (CW.out _) ?_; rintro e w2 ⟨rfl, hx⟩; have HX2 := Lib.hid hx; clear hx))
      go_ret2
      exact .inl ⟨by rw [HE.out]; rfl, rb, PA, pc, me, mb, ne, nb, rfl, HRL.out.ext HX2.out, (Ext.trans (by repeat (first | exact Ext.refl _ | assumption | refine Ext.alloc ?_ _ | refine Ext.drew ?_ | refine Ext.drewN ?_ _ | (refine Ext.setCell ?_ (by simp <;> omega) _) | refine Ext.trans ?_ (by assumption))) HX1.out).trans HX2.out⟩
  case neg =>
    have H0 := Lib.hid h0
    rw [if_neg h0] at HE
    go_enter Tryz.func62, Tryz.ntmps62
    go_wp2_with (first | (go_at_call 106; refine Calls.mono (CR.out _ (HR.out.ext (by repeat (first | exact Ext.refl _ | assumption | refine Ext.alloc ?_ _ | refine Ext.drew ?_ | refine Ext.drewN ?_ _ | (refine Ext.setCell ?_ (by simp <;> omega) _) | refine Ext.trans ?_ (by assumption))))) ?_; rintro e w1 (⟨hn, _⟩ | ⟨_, rfl, hx⟩); (exact absurd hn H0.out); have HX1 := Lib.hid hx; clear hx))
    go_ret2
    exact .inr ⟨by rw [HE.out]; exact H0.out, _, by rw [HE.out]; rfl, (Ext.trans (by repeat (first | exact Ext.refl _ | assumption | refine Ext.alloc ?_ _ | refine Ext.drew ?_ | refine Ext.drewN ?_ _ | (refine Ext.setCell ?_ (by simp <;> omega) _) | refine Ext.trans ?_ (by assumption))) HX1.out)⟩
theorem ruledE_size {r : RU} {s : ByteArray} (h : ruledE r s = 0) : 1 ≤ s.size ∧ s.size ≤ 30 := by
  unfold ruledE at h
  split at h
  · split at h
    · rename_i hw
      unfold wordB at hw
      simp only [Bool.and_eq_true, decide_eq_true_eq] at hw
      omega
    · cases h
  · rename_i h1; exact absurd h h1
set_option maxRecDepth 100000 in
set_option maxHeartbeats 4000000 in
theorem Hyphens_any (r : RU) (a : RuA) (s : ByteArray) (w : World) (hr : RuR w a r) (hs : ShortU r) (hz : s.size ≤ 1000000) : Calls Tryz.prog 15 #[r.val a, .string s] w (RetSE (if ruledE r s = 0 then hyW r s.data.toList else []) (ruledE r s) w) := by
  have HR := Lib.hid hr
  have CR := Lib.hid fun W (h : RuR W a r) => ruled_any r a s W h hs hz
  clear hr hs
  unfold RU.val at CR ⊢
  by_cases h0 : ruledE r s = 0
  case pos =>
    rw [if_pos h0, h0]
    have H0 := Lib.hid h0
    have HSZ := Lib.hid (ruledE_size h0)
    clear h0
    go_enter Tryz.func15, Tryz.ntmps15
    go_wp2_with (first | (go_at_call 62; refine Calls.mono (CR.out _ (HR.out.ext (by repeat (first | exact Ext.refl _ | assumption | refine Ext.alloc ?_ _ | refine Ext.drew ?_ | refine Ext.drewN ?_ _ | (refine Ext.setCell ?_ (by simp <;> omega) _) | refine Ext.trans ?_ (by assumption))))) ?_; rintro e w1 (⟨_, rb, PA, pc, me, mb, ne, nb, rfl, hrl, hx⟩ | ⟨hn, _⟩); rotate_left 1; (exact absurd H0.out hn); have HRL := Lib.hid hrl; have HX1 := Lib.hid hx; clear hrl hx) | (go_at_call 63; refine Calls.mono (hyphens_any r a PA rb pc me mb ne nb s _ HRL.out (by have := HSZ.out; omega)) ?_; rintro e w2 ⟨A2, c2, rfl, hs2, hx⟩; have HS2 := Lib.hid hs2; have HX2 := Lib.hid hx; clear hs2 hx))
    go_ret2
    exact ⟨A2, c2, rfl, HS2.out.mono ((Ext.trans (by repeat (first | exact Ext.refl _ | assumption | refine Ext.alloc ?_ _ | refine Ext.drew ?_ | refine Ext.drewN ?_ _ | (refine Ext.setCell ?_ (by simp <;> omega) _) | refine Ext.trans ?_ (by assumption))) HX1.out).size), (Ext.trans (by repeat (first | exact Ext.refl _ | assumption | refine Ext.alloc ?_ _ | refine Ext.drew ?_ | refine Ext.drewN ?_ _ | (refine Ext.setCell ?_ (by simp <;> omega) _) | refine Ext.trans ?_ (by assumption))) HX1.out).trans HX2.out⟩
  case neg =>
    rw [if_neg h0]
    have H0 := Lib.hid h0
    go_enter Tryz.func15, Tryz.ntmps15
    go_wp2_with (first | (go_at_call 62; refine Calls.mono (CR.out _ (HR.out.ext (by repeat (first | exact Ext.refl _ | assumption | refine Ext.alloc ?_ _ | refine Ext.drew ?_ | refine Ext.drewN ?_ _ | (refine Ext.setCell ?_ (by simp <;> omega) _) | refine Ext.trans ?_ (by assumption))))) ?_; rintro e w1 (⟨hn, _⟩ | ⟨_, p, rfl, hx⟩); (exact absurd hn H0.out); have HX1 := Lib.hid hx; clear hx))
    go_ret2
    exact ⟨none, 0, rfl, SL.nil _ _, (Ext.trans (by repeat (first | exact Ext.refl _ | assumption | refine Ext.alloc ?_ _ | refine Ext.drew ?_ | refine Ext.drewN ?_ _ | (refine Ext.setCell ?_ (by simp <;> omega) _) | refine Ext.trans ?_ (by assumption))) HX1.out)⟩
set_option maxRecDepth 100000 in
set_option maxHeartbeats 4000000 in
theorem LevelsOf_any (r : RU) (a : RuA) (s : ByteArray) (w : World) (hr : RuR w a r) (hs : ShortU r) (hz : s.size ≤ 1000000) : Calls Tryz.prog 32 #[r.val a, .string s] w (RetSE (if ruledE r s = 0 then lvList r s.data.toList else []) (ruledE r s) w) := by
  have HR := Lib.hid hr
  have CR := Lib.hid fun W (h : RuR W a r) => ruled_any r a s W h hs hz
  clear hr hs
  unfold RU.val at CR ⊢
  by_cases h0 : ruledE r s = 0
  case pos =>
    rw [if_pos h0, h0]
    have H0 := Lib.hid h0
    have HSZ := Lib.hid (ruledE_size h0)
    clear h0
    go_enter Tryz.func32, Tryz.ntmps32
    go_wp2_with (first | (go_at_call 62; refine Calls.mono (CR.out _ (HR.out.ext (by repeat (first | exact Ext.refl _ | assumption | refine Ext.alloc ?_ _ | refine Ext.drew ?_ | refine Ext.drewN ?_ _ | (refine Ext.setCell ?_ (by simp <;> omega) _) | refine Ext.trans ?_ (by assumption))))) ?_; rintro e w1 (⟨_, rb, PA, pc, me, mb, ne, nb, rfl, hrl, hx⟩ | ⟨hn, _⟩); rotate_left 1; (exact absurd H0.out hn); have HRL := Lib.hid hrl; have HX1 := Lib.hid hx; clear hrl hx) | (go_at_call 78; refine Calls.mono (levels_any r a PA rb pc me mb ne nb s _ HRL.out (by have := HSZ.out; omega)) ?_; rintro e w2 ⟨A2, c2, rfl, hs2, hx⟩; have HS2 := Lib.hid hs2; have HX2 := Lib.hid hx; clear hs2 hx))
    go_ret2
    exact ⟨A2, c2, rfl, HS2.out.mono ((Ext.trans (by repeat (first | exact Ext.refl _ | assumption | refine Ext.alloc ?_ _ | refine Ext.drew ?_ | refine Ext.drewN ?_ _ | (refine Ext.setCell ?_ (by simp <;> omega) _) | refine Ext.trans ?_ (by assumption))) HX1.out).size), (Ext.trans (by repeat (first | exact Ext.refl _ | assumption | refine Ext.alloc ?_ _ | refine Ext.drew ?_ | refine Ext.drewN ?_ _ | (refine Ext.setCell ?_ (by simp <;> omega) _) | refine Ext.trans ?_ (by assumption))) HX1.out).trans HX2.out⟩
  case neg =>
    rw [if_neg h0]
    have H0 := Lib.hid h0
    go_enter Tryz.func32, Tryz.ntmps32
    go_wp2_with (first | (go_at_call 62; refine Calls.mono (CR.out _ (HR.out.ext (by repeat (first | exact Ext.refl _ | assumption | refine Ext.alloc ?_ _ | refine Ext.drew ?_ | refine Ext.drewN ?_ _ | (refine Ext.setCell ?_ (by simp <;> omega) _) | refine Ext.trans ?_ (by assumption))))) ?_; rintro e w1 (⟨hn, _⟩ | ⟨_, p, rfl, hx⟩); (exact absurd hn H0.out); have HX1 := Lib.hid hx; clear hx))
    go_ret2
    exact ⟨none, 0, rfl, SL.nil _ _, (Ext.trans (by repeat (first | exact Ext.refl _ | assumption | refine Ext.alloc ?_ _ | refine Ext.drew ?_ | refine Ext.drewN ?_ _ | (refine Ext.setCell ?_ (by simp <;> omega) _) | refine Ext.trans ?_ (by assumption))) HX1.out)⟩
end Go.Proofs.YtccdnieoaejgdaaGreatDoor
namespace Go.Proofs.YtccdnieoaejgdaaGreatDoor
open Go.RowKit Go.Lib

theorem Blk.c3f {w : World} {g : Nat} {t : TypeId} {a b c : Value} (h : Blk w g t #[a, b, c]) : w.cell? ⟨g, 0, none⟩ = some a ∧ w.cell? ⟨g, 1, none⟩ = some b ∧ w.cell? ⟨g, 2, none⟩ = some c ∧ w.frozen? ⟨g, 0, none⟩ = false ∧ w.frozen? ⟨g, 1, none⟩ = false ∧ w.frozen? ⟨g, 2, none⟩ = false ∧ g < w.heap.size :=
  ⟨h.cell 0 _ rfl, h.cell 1 _ rfl, h.cell 2 _ rfl, h.frozen 0, h.frozen 1, h.frozen 2, h.lt⟩
/-- The error of a fount and rules. -/
def openE (f : FT) (r : RU) : Int := if (chk f).2 ≠ 0 then (chk f).2 else (ruleE r).2
/-- .. and of a word. -/
def wordE (f : FT) (r : RU) (s : ByteArray) : Int := if openE f r ≠ 0 then openE f r else if wordB s = true then 0 else 3
theorem mkLook_few {lt : Bool} {m : UInt8} {l : List ByteArray} {w : List UInt8} {zs : List Int} : ∀ {n : Nat}, mkLook lt m l n w = some zs → w.length ≤ 30
  | 0, h => by cases h
  | n + 1, h => by
    rw [mkLook] at h
    split at h
    · rename_i x hx
      split at h
      · rename_i hw
        subst hw
        unfold mkOf at hx
        split at hx
        · split at hx
          · rename_i hk
            cases hx
            unfold mkOk at hk
            simp only [Bool.and_eq_true, decide_eq_true_eq] at hk
            exact hk.1.2
          · cases hx
        · cases hx
      · exact mkLook_few h
    · exact mkLook_few h
theorem KI.other {W W' : World} {b n g : Nat} {T : TypeId} {cs : Array Value} {f : List UInt8 → Option (List Int)} (h : KI W b n f) (hl : ∀ l zs, f l = some zs → zs.length ≤ 1000000) (hg : W.grownBy W' (some g)) (hb : Blk W g T cs) (hT : T ≠ 3) : KI W' b n f := by
  obtain ⟨F, hk, hf⟩ := h.ex
  refine ⟨F, hk.kept hg (fun e => ?_), fun l => ?_⟩
  · obtain rfl := Option.some.inj e
    obtain ⟨D, ⟨es, clock, hb9, _⟩, _⟩ := hk
    unfold Blk at hb
    rw [hb9] at hb; cases hb
  · have := hf l
    cases hfl : f l with
    | none => rw [hfl] at this; exact this
    | some zs => rw [hfl] at this; obtain ⟨A, c, h1, h2⟩ := this; exact ⟨A, c, h1, h2.other (hl l zs hfl) hg hb hT⟩
/-- A printer's block is stored into: the ruler stays. -/
theorem RlR.other {W W' : World} {rb pc me mb ne nb g : Nat} {r : RU} {a : RuA} {PA : Option Addr} {s b x : Value} (h : RlR W rb r a PA pc me mb ne nb) (hg : W.grownBy W' (some g)) (hb : Blk W g 126 #[s, b, x]) (hs : ∀ p, s ≠ .pointer p) (hb2 : ∀ p, b ≠ .pointer p) (hx : ∀ p, x ≠ .pointer p) : RlR W' rb r a PA pc me mb ne nb := by
  refine ⟨blk_other h.blk hg hb (by decide), ⟨h.pats.big, fun hp => ?_⟩, h.exc.other (fun l zs e => ?_) hg hb (by decide), h.bar.other (fun l zs e => ?_) hg hb (by decide), h.ok⟩
  · obtain ⟨b9, off, h1, h2, h3⟩ := h.pats.at_ hp
    have hne : b9 ≠ g := fun e => by
      subst e
      obtain ⟨p, h4, _⟩ := h3 0 hp
      unfold Blk at hb
      simp only [World.cell?, hb, Nat.add_zero] at h4
      match off, h4 with
      | 0, h4 => exact hs _ (Option.some.inj h4)
      | 1, h4 => exact hb2 _ (Option.some.inj h4)
      | 2, h4 => exact hx _ (Option.some.inj h4)
      | n + 3, h4 => simp at h4
    refine ⟨b9, off, h1, Nat.lt_of_lt_of_le h2 hg.size, fun k hk => ?_⟩
    obtain ⟨p, h4, h5⟩ := h3 k hk
    refine ⟨p, ?_, h5.other ?_ hg hb (by decide) (by decide)⟩
    · rw [World.cell?_of_block (w := W) (a := ⟨b9, off + k, none⟩) (hg.block b9 h2 (fun e => hne (Option.some.inj e)))]; exact h4
    · have := (RightU.of h.ok).patOk (by rw [← patsOf_len]; exact hk)
      have h6 := this.len; have h7 := this.hi; omega
  · have h1 := mkLook_len e; have h2 := mkLook_few e; omega
  · have h1 := mkLook_len e; have h2 := mkLook_few e; omega
/-- A printer, a ruler and an error. -/
def RetOp (z : Int) (f : FT) (A : Option Addr) (c : Nat) (r : RU) (a : RuA) (w : World) (e : Ending) (w' : World) : Prop :=
  (z = 0 ∧ ∃ rb PA pc me mb ne nb, e = .returned (.tuple #[.agg #[.string f.name, .int .i64 f.body, .slice A f.sorts.length c], .pointer (some ⟨rb, 0, none⟩), .int .i64 0]) ∧ RlR w' rb r a PA pc me mb ne nb ∧ Ext w w') ∨
  (z ≠ 0 ∧ ∃ nm bd X n d p, e = .returned (.tuple #[.agg #[.string nm, .int .i64 bd, .slice X n d], .pointer p, .int .i64 z]) ∧ Ext w w')
set_option maxRecDepth 100000 in
set_option maxHeartbeats 4000000 in
theorem open_any (f : FT) (A : Option Addr) (c : Nat) (r : RU) (a : RuA) (w : World) (hf : FR w A c f) (hr : RuR w a r) (hs : ShortU r) : Calls Tryz.prog 93 #[f.val A c, r.val a] w (RetOp (openE f r) f A c r a w) := by
  have HF := Lib.hid hf
  have HR := Lib.hid hr
  have CR := Lib.hid fun W (h : RuR W a r) => rulerOf_any r a W h hs
  have CF := Lib.hid fun W h => checkFount_any f A c W h
  have HE : Hid (openE f r = if (chk f).2 ≠ 0 then (chk f).2 else (ruleE r).2) := Lib.hid rfl
  clear hr hs hf
  unfold RU.val FT.val ChkV at *
  generalize (chk f).1 = m at *
  generalize hz : (chk f).2 = z at *
  clear hz
  by_cases h0 : z = 0
  case neg =>
    have e0 : (z != 0) = true := by simpa using h0
    rw [if_pos h0] at HE
    have H0 := Lib.hid h0
    clear h0
    go_enter Tryz.func93, Tryz.ntmps93
    go_wp2_with (first | (go_at_call 68; refine Calls.mono (CF.out _ (HF.out.ext (by repeat (first | exact Ext.refl _ | assumption | refine Ext.alloc ?_ _ | refine Ext.drew ?_ | refine Ext.drewN ?_ _ | (refine Ext.setCell ?_ (by simp <;> omega) _) | refine Ext.trans ?_ (by assumption))))) ?_; rintro e w1 ⟨rfl, hb⟩; have HX1 := Lib.hid (Ext.trans (a := w) (by repeat (first | exact Ext.refl _ | assumption | refine Ext.alloc ?_ _ | refine Ext.drew ?_ | refine Ext.drewN ?_ _ | (refine Ext.setCell ?_ (by simp <;> omega) _) | refine Ext.trans ?_ (by assumption))) hb); have HB1 := Lib.hid ((Blk.new2 w _ _ _ _).ext hb); have HB0 := Lib.hid (((Blk.new1 w _ _ _).alloc _).ext hb); have HBF := Lib.hid ((((Blk.new w _ _).alloc _).alloc _).ext hb); have u0 := HB0.out.cell 0 _ rfl; have u1 := HB0.out.cell 1 _ rfl; have u2 := HB0.out.cell 2 _ rfl; have u3 := HB0.out.cell 3 _ rfl; have u4 := HB0.out.cell 4 _ rfl; have ul := HB0.out.lt; obtain ⟨y1, y2, y3, z1, z2, z3, yl⟩ := HB1.out.c3f; clear hb))
    have hq1 := ((HB1.out.set_ 0 (.string ⟨#[]⟩)).set_ 1 (.int .i64 0)).set_ 2 (.slice none 0 0)
    have g1 := hq1.cell 0 _ rfl; have g2 := hq1.cell 1 _ rfl; have g3 := hq1.cell 2 _ rfl
    refine bodyPost_ret (v := .tuple #[.agg #[.string ⟨#[]⟩, .int .i64 0, .slice none 0 0], .pointer none, .int .i64 z]) (by simp [results, Tryz.results93, go_sem, g1, g2, g3]) rfl ?_
    exact .inr ⟨by rw [HE.out]; exact H0.out, _, _, _, _, _, _, by rw [HE.out], ((HX1.out.setCell (p := ⟨_, 0, none⟩) (by simp only; omega) _).setCell (p := ⟨_, 1, none⟩) (by simp only; omega) _).setCell (p := ⟨_, 2, none⟩) (by simp only; omega) _⟩
  case pos =>
    subst h0
    rw [if_neg (by decide)] at HE
    by_cases h1 : (ruleE r).2 = 0
    case pos =>
      have H1 := Lib.hid h1
      rw [h1] at HE
      clear h1
      go_enter Tryz.func93, Tryz.ntmps93
      go_wp2_with (first | (go_at_call 68; refine Calls.mono (CF.out _ (HF.out.ext (by repeat (first | exact Ext.refl _ | assumption | refine Ext.alloc ?_ _ | refine Ext.drew ?_ | refine Ext.drewN ?_ _ | (refine Ext.setCell ?_ (by simp <;> omega) _) | refine Ext.trans ?_ (by assumption))))) ?_; rintro e w1 ⟨rfl, hb⟩; have HX1 := Lib.hid (Ext.trans (a := w) (by repeat (first | exact Ext.refl _ | assumption | refine Ext.alloc ?_ _ | refine Ext.drew ?_ | refine Ext.drewN ?_ _ | (refine Ext.setCell ?_ (by simp <;> omega) _) | refine Ext.trans ?_ (by assumption))) hb); have HB1 := Lib.hid ((Blk.new2 w _ _ _ _).ext hb); have HB0 := Lib.hid (((Blk.new1 w _ _ _).alloc _).ext hb); have HBF := Lib.hid ((((Blk.new w _ _).alloc _).alloc _).ext hb); have u0 := HB0.out.cell 0 _ rfl; have u1 := HB0.out.cell 1 _ rfl; have u2 := HB0.out.cell 2 _ rfl; have u3 := HB0.out.cell 3 _ rfl; have u4 := HB0.out.cell 4 _ rfl; have ul := HB0.out.lt; obtain ⟨y1, y2, y3, z1, z2, z3, yl⟩ := HB1.out.c3f; clear hb) | (go_at_call 106; refine Calls.mono (CR.out _ (HR.out.ext (HX1.out.trans (by repeat (first | exact Ext.refl _ | assumption | refine Ext.alloc ?_ _ | refine Ext.drew ?_ | refine Ext.drewN ?_ _ | (refine Ext.setCell ?_ (by simp <;> omega) _) | refine Ext.trans ?_ (by assumption)))))) ?_; rintro e w2 (⟨_, rb, PA, pc, me, mb, ne, nb, rfl, hrl, hx⟩ | ⟨hn, _⟩); rotate_left 1; (exact absurd H1.out hn); have HRL := Lib.hid hrl; have HX2 := Lib.hid (Ext.trans (a := w1) (by repeat (first | exact Ext.refl _ | assumption | refine Ext.alloc ?_ _ | refine Ext.drew ?_ | refine Ext.drewN ?_ _ | (refine Ext.setCell ?_ (by simp <;> omega) _) | refine Ext.trans ?_ (by assumption))) hx); clear hrl hx y1 y2 y3 z1 z2 z3 yl; obtain ⟨y1, y2, y3, z1, z2, z3, yl⟩ := (HB1.out.ext HX2.out).c3f; obtain ⟨x1, x2, x3, xl⟩ := (HBF.out.ext HX2.out).c3))
      have hq1 := (((HB1.out.ext HX2.out).set_ 0 (.string f.name)).set_ 1 (.int .i64 f.body)).set_ 2 (.slice A f.sorts.length c)
      have g1 := hq1.cell 0 _ rfl; have g2 := hq1.cell 1 _ rfl; have g3 := hq1.cell 2 _ rfl
      refine bodyPost_ret (v := .tuple #[.agg #[.string f.name, .int .i64 f.body, .slice A f.sorts.length c], .pointer (some ⟨rb, 0, none⟩), .int .i64 0]) (by simp [results, Tryz.results93, go_sem, g1, g2, g3]) rfl ?_
      have hb0 := HB1.out.ext HX2.out
      have hr1 := HRL.out.other (set_grownB _ ⟨w.heap.size + 1 + 1, 0, none⟩ (.string f.name)) hb0 (by simp) (by simp) (by simp)
      have hb1 := hb0.set_ 0 (.string f.name)
      have hr2 := hr1.other (set_grownB _ ⟨w.heap.size + 1 + 1, 1, none⟩ (.int .i64 f.body)) hb1 (by simp) (by simp) (by simp)
      have hr3 := hr2.other (set_grownB _ ⟨w.heap.size + 1 + 1, 2, none⟩ (.slice A f.sorts.length c)) (hb1.set_ 1 (.int .i64 f.body)) (by simp) (by simp) (by simp)
      exact .inl ⟨HE.out, rb, PA, pc, me, mb, ne, nb, rfl, hr3, ((Ext.setCell (HX1.out.trans HX2.out) (p := ⟨_, 0, none⟩) (by simp only; omega) _).setCell (p := ⟨_, 1, none⟩) (by simp only; omega) _).setCell (p := ⟨_, 2, none⟩) (by simp only; omega) _⟩
    case neg =>
      have H1 := Lib.hid h1
      clear h1
      go_enter Tryz.func93, Tryz.ntmps93
      go_wp2_with (first | (go_at_call 68; refine Calls.mono (CF.out _ (HF.out.ext (by repeat (first | exact Ext.refl _ | assumption | refine Ext.alloc ?_ _ | refine Ext.drew ?_ | refine Ext.drewN ?_ _ | (refine Ext.setCell ?_ (by simp <;> omega) _) | refine Ext.trans ?_ (by assumption))))) ?_; rintro e w1 ⟨rfl, hb⟩; have HX1 := Lib.hid (Ext.trans (a := w) (by repeat (first | exact Ext.refl _ | assumption | refine Ext.alloc ?_ _ | refine Ext.drew ?_ | refine Ext.drewN ?_ _ | (refine Ext.setCell ?_ (by simp <;> omega) _) | refine Ext.trans ?_ (by assumption))) hb); have HB1 := Lib.hid ((Blk.new2 w _ _ _ _).ext hb); have HB0 := Lib.hid (((Blk.new1 w _ _ _).alloc _).ext hb); have HBF := Lib.hid ((((Blk.new w _ _).alloc _).alloc _).ext hb); have u0 := HB0.out.cell 0 _ rfl; have u1 := HB0.out.cell 1 _ rfl; have u2 := HB0.out.cell 2 _ rfl; have u3 := HB0.out.cell 3 _ rfl; have u4 := HB0.out.cell 4 _ rfl; have ul := HB0.out.lt; obtain ⟨y1, y2, y3, z1, z2, z3, yl⟩ := HB1.out.c3f; clear hb) | (go_at_call 106; refine Calls.mono (CR.out _ (HR.out.ext (HX1.out.trans (by repeat (first | exact Ext.refl _ | assumption | refine Ext.alloc ?_ _ | refine Ext.drew ?_ | refine Ext.drewN ?_ _ | (refine Ext.setCell ?_ (by simp <;> omega) _) | refine Ext.trans ?_ (by assumption)))))) ?_; rintro e w2 (⟨hn, _⟩ | ⟨_, rfl, hx⟩); (exact absurd hn H1.out); have HX2 := Lib.hid (Ext.trans (a := w1) (by repeat (first | exact Ext.refl _ | assumption | refine Ext.alloc ?_ _ | refine Ext.drew ?_ | refine Ext.drewN ?_ _ | (refine Ext.setCell ?_ (by simp <;> omega) _) | refine Ext.trans ?_ (by assumption))) hx); clear hx y1 y2 y3 z1 z2 z3 yl; obtain ⟨y1, y2, y3, z1, z2, z3, yl⟩ := (HB1.out.ext HX2.out).c3f; obtain ⟨x1, x2, x3, xl⟩ := (HBF.out.ext HX2.out).c3))
      have hq1 := (((HB1.out.ext HX2.out).set_ 0 (.string f.name)).set_ 1 (.int .i64 f.body)).set_ 2 (.slice A f.sorts.length c)
      have g1 := hq1.cell 0 _ rfl; have g2 := hq1.cell 1 _ rfl; have g3 := hq1.cell 2 _ rfl
      refine bodyPost_ret (v := .tuple #[.agg #[.string f.name, .int .i64 f.body, .slice A f.sorts.length c], .pointer none, .int .i64 (ruleE r).2]) (by simp [results, Tryz.results93, go_sem, g1, g2, g3]) rfl ?_
      exact .inr ⟨by rw [HE.out]; exact H1.out, _, _, _, _, _, _, by rw [HE.out], ((Ext.setCell (HX1.out.trans HX2.out) (p := ⟨_, 0, none⟩) (by simp only; omega) _).setCell (p := ⟨_, 1, none⟩) (by simp only; omega) _).setCell (p := ⟨_, 2, none⟩) (by simp only; omega) _⟩
end Go.Proofs.YtccdnieoaejgdaaGreatDoor
namespace Go.Proofs.YtccdnieoaejgdaaGreatDoor
open Go.RowKit Go.Lib

set_option maxRecDepth 100000 in
set_option maxHeartbeats 4000000 in
theorem openWord_any (f : FT) (A : Option Addr) (c : Nat) (r : RU) (a : RuA) (s : ByteArray) (w : World) (hf : FR w A c f) (hr : RuR w a r) (hs : ShortU r) (hz : s.size ≤ 1000000) : Calls Tryz.prog 87 #[f.val A c, r.val a, .string s] w (RetOp (wordE f r s) f A c r a w) := by
  have HF := Lib.hid hf
  have HR := Lib.hid hr
  have CO := Lib.hid fun W (h : FR W A c f) (k : RuR W a r) => open_any f A c r a W h k hs
  have CW := Lib.hid fun W => isWord_any s W (by omega)
  have HE : Hid (wordE f r s = if openE f r ≠ 0 then openE f r else if wordB s = true then 0 else 3) := Lib.hid rfl
  clear hr hs hf
  unfold RU.val FT.val at *
  generalize openE f r = z at *
  by_cases h0 : z = 0
  case neg =>
    have e0 : (z == 0) = false := by simpa using h0
    rw [if_pos h0] at HE
    have H1 := Lib.hid h0
    clear h0
    go_enter Tryz.func87, Tryz.ntmps87
    go_wp2_with (first | (go_at_call 93; refine Calls.mono (CO.out _ (HF.out.ext (by repeat (first | exact Ext.refl _ | assumption | refine Ext.alloc ?_ _ | refine Ext.drew ?_ | refine Ext.drewN ?_ _ | (refine Ext.setCell ?_ (by simp <;> omega) _) | refine Ext.trans ?_ (by assumption)))) (HR.out.ext (by repeat (first | exact Ext.refl _ | assumption | refine Ext.alloc ?_ _ | refine Ext.drew ?_ | refine Ext.drewN ?_ _ | (refine Ext.setCell ?_ (by simp <;> omega) _) | refine Ext.trans ?_ (by assumption))))) ?_; rintro e w1 (⟨hn, _⟩ | ⟨_, nm, bd, X, n9, d9, p9, rfl, hx⟩); (exact absurd hn H1.out); have HX1 := Lib.hid (Ext.trans (a := w) (by repeat (first | exact Ext.refl _ | assumption | refine Ext.alloc ?_ _ | refine Ext.drew ?_ | refine Ext.drewN ?_ _ | (refine Ext.setCell ?_ (by simp <;> omega) _) | refine Ext.trans ?_ (by assumption))) hx); have HB1 := Lib.hid ((Blk.new2 w _ _ _ _).ext hx); obtain ⟨y1, y2, y3, z1, z2, z3, yl⟩ := HB1.out.c3f; clear hx))
    have hq1 := (((HB1.out.set_ 0 (.string nm)).set_ 1 (.int .i64 bd)).set_ 2 (.slice X n9 d9)).alloc (.cells #[.string nm, .int .i64 bd, .slice X n9 d9] 126)
    have g1 := hq1.cell 0 _ rfl; have g2 := hq1.cell 1 _ rfl; have g3 := hq1.cell 2 _ rfl
    refine bodyPost_ret (v := .tuple #[.agg #[.string nm, .int .i64 bd, .slice X n9 d9], .pointer p9, .int .i64 z]) (by simp [results, Tryz.results87, go_sem, g1, g2, g3]) rfl ?_
    exact .inr ⟨by rw [HE.out]; exact H1.out, _, _, _, _, _, _, by rw [HE.out], (((Ext.setCell HX1.out (p := ⟨w.heap.size + 1 + 1, 0, none⟩) (by simp only; omega) _).setCell (p := ⟨w.heap.size + 1 + 1, 1, none⟩) (by simp only; omega) _).setCell (p := ⟨w.heap.size + 1 + 1, 2, none⟩) (by simp only; omega) _).alloc _⟩
  case pos =>
    subst h0
    rw [if_neg (by decide)] at HE
    have H1 := Lib.hid (rfl : (0 : Int) = 0)
    cases hw : wordB s
    case false =>
      rw [hw] at CW HE
      go_enter Tryz.func87, Tryz.ntmps87
      go_wp2_with (first | (go_at_call 93; refine Calls.mono (CO.out _ (HF.out.ext (by repeat (first | exact Ext.refl _ | assumption | refine Ext.alloc ?_ _ | refine Ext.drew ?_ | refine Ext.drewN ?_ _ | (refine Ext.setCell ?_ (by simp <;> omega) _) | refine Ext.trans ?_ (by assumption)))) (HR.out.ext (by repeat (first | exact Ext.refl _ | assumption | refine Ext.alloc ?_ _ | refine Ext.drew ?_ | refine Ext.drewN ?_ _ | (refine Ext.setCell ?_ (by simp <;> omega) _) | refine Ext.trans ?_ (by assumption))))) ?_; rintro e w1 (⟨_, rb, PA, pc, me, mb, ne, nb, rfl, hrl, hx⟩ | ⟨hn, _⟩); rotate_left 1; (exact absurd H1.out hn); have HRL := Lib.hid hrl; have HX1 := Lib.hid (Ext.trans (a := w) (by repeat (first | exact Ext.refl _ | assumption | refine Ext.alloc ?_ _ | refine Ext.drew ?_ | refine Ext.drewN ?_ _ | (refine Ext.setCell ?_ (by simp <;> omega) _) | refine Ext.trans ?_ (by assumption))) hx); have HB1 := Lib.hid ((Blk.new2 w _ _ _ _).ext hx); obtain ⟨y1, y2, y3, z1, z2, z3, yl⟩ := HB1.out.c3f; clear hrl hx) | (go_at_call 69; refine Calls.mono (CW.out _) ?_; rintro e w2 ⟨rfl, hx⟩; have HX2 := Lib.hid (Ext.trans (a := w1) (by repeat (first | exact Ext.refl _ | assumption | refine Ext.alloc ?_ _ | refine Ext.drew ?_ | refine Ext.drewN ?_ _ | (refine Ext.setCell ?_ (by simp <;> omega) _) | refine Ext.trans ?_ (by assumption))) hx); have HB9 := Lib.hid ((Blk.new w1 _ _).ext hx); clear hx y1 y2 y3 z1 z2 z3 yl; obtain ⟨y1, y2, y3, z1, z2, z3, yl⟩ := (HB1.out.ext HX2.out).c3f; obtain ⟨x1, x2, x3, _, _, _, xl⟩ := HB9.out.c3f))
      have hq1 := (((HB1.out.ext HX2.out).set_ 0 (.string f.name)).set_ 1 (.int .i64 f.body)).set_ 2 (.slice A f.sorts.length c)
      have g1 := hq1.cell 0 _ rfl; have g2 := hq1.cell 1 _ rfl; have g3 := hq1.cell 2 _ rfl
      refine bodyPost_ret (v := .tuple #[.agg #[.string f.name, .int .i64 f.body, .slice A f.sorts.length c], .pointer (some ⟨rb, 0, none⟩), .int .i64 3]) (by simp [results, Tryz.results87, go_sem, g1, g2, g3]) rfl ?_
      exact .inr ⟨by rw [HE.out]; decide, _, _, _, _, _, _, by rw [HE.out]; rfl, ((Ext.setCell (HX1.out.trans HX2.out) (p := ⟨_, 0, none⟩) (by simp only; omega) _).setCell (p := ⟨_, 1, none⟩) (by simp only; omega) _).setCell (p := ⟨_, 2, none⟩) (by simp only; omega) _⟩
    case true =>
      rw [hw] at CW HE
      go_enter Tryz.func87, Tryz.ntmps87
      go_wp2_with (first | (go_at_call 93; refine Calls.mono (CO.out _ (HF.out.ext (by repeat (first | exact Ext.refl _ | assumption | refine Ext.alloc ?_ _ | refine Ext.drew ?_ | refine Ext.drewN ?_ _ | (refine Ext.setCell ?_ (by simp <;> omega) _) | refine Ext.trans ?_ (by assumption)))) (HR.out.ext (by repeat (first | exact Ext.refl _ | assumption | refine Ext.alloc ?_ _ | refine Ext.drew ?_ | refine Ext.drewN ?_ _ | (refine Ext.setCell ?_ (by simp <;> omega) _) | refine Ext.trans ?_ (by assumption))))) ?_; rintro e w1 (⟨_, rb, PA, pc, me, mb, ne, nb, rfl, hrl, hx⟩ | ⟨hn, _⟩); rotate_left 1; (exact absurd H1.out hn); have HRL := Lib.hid hrl; have HX1 := Lib.hid (Ext.trans (a := w) (by repeat (first | exact Ext.refl _ | assumption | refine Ext.alloc ?_ _ | refine Ext.drew ?_ | refine Ext.drewN ?_ _ | (refine Ext.setCell ?_ (by simp <;> omega) _) | refine Ext.trans ?_ (by assumption))) hx); have HB1 := Lib.hid ((Blk.new2 w _ _ _ _).ext hx); obtain ⟨y1, y2, y3, z1, z2, z3, yl⟩ := HB1.out.c3f; clear hrl hx) | (go_at_call 69; refine Calls.mono (CW.out _) ?_; rintro e w2 ⟨rfl, hx⟩; have HX2 := Lib.hid (Ext.trans (a := w1) (by repeat (first | exact Ext.refl _ | assumption | refine Ext.alloc ?_ _ | refine Ext.drew ?_ | refine Ext.drewN ?_ _ | (refine Ext.setCell ?_ (by simp <;> omega) _) | refine Ext.trans ?_ (by assumption))) hx); have HB9 := Lib.hid ((Blk.new w1 _ _).ext hx); clear hx y1 y2 y3 z1 z2 z3 yl; obtain ⟨y1, y2, y3, z1, z2, z3, yl⟩ := (HB1.out.ext HX2.out).c3f; obtain ⟨x1, x2, x3, _, _, _, xl⟩ := HB9.out.c3f))
      have hq1 := (((HB1.out.ext HX2.out).set_ 0 (.string f.name)).set_ 1 (.int .i64 f.body)).set_ 2 (.slice A f.sorts.length c)
      have g1 := hq1.cell 0 _ rfl; have g2 := hq1.cell 1 _ rfl; have g3 := hq1.cell 2 _ rfl
      refine bodyPost_ret (v := .tuple #[.agg #[.string f.name, .int .i64 f.body, .slice A f.sorts.length c], .pointer (some ⟨rb, 0, none⟩), .int .i64 0]) (by simp [results, Tryz.results87, go_sem, g1, g2, g3]) rfl ?_
      have hb0 := HB1.out.ext HX2.out
      have hr1 := (HRL.out.ext HX2.out).other (set_grownB _ ⟨w.heap.size + 1 + 1, 0, none⟩ (.string f.name)) hb0 (by simp) (by simp) (by simp)
      have hb1 := hb0.set_ 0 (.string f.name)
      have hr2 := hr1.other (set_grownB _ ⟨w.heap.size + 1 + 1, 1, none⟩ (.int .i64 f.body)) hb1 (by simp) (by simp) (by simp)
      have hr3 := hr2.other (set_grownB _ ⟨w.heap.size + 1 + 1, 2, none⟩ (.slice A f.sorts.length c)) (hb1.set_ 1 (.int .i64 f.body)) (by simp) (by simp) (by simp)
      exact .inl ⟨by rw [HE.out]; rfl, rb, PA, pc, me, mb, ne, nb, rfl, hr3, ((Ext.setCell (HX1.out.trans HX2.out) (p := ⟨_, 0, none⟩) (by simp only; omega) _).setCell (p := ⟨_, 1, none⟩) (by simp only; omega) _).setCell (p := ⟨_, 2, none⟩) (by simp only; omega) _⟩
end Go.Proofs.YtccdnieoaejgdaaGreatDoor
