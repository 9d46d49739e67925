/-
  The document's examples of chapter 2 hold (awake).
  What the reference of chapter 2 computes, and that it is the same as the program: marked words, patterns, levels. No program in sight.
  Walk: the reference's marked words.
  Walk: whether a text stands in a list (the base's HasText); appending a text to a list of one's own.
  Walk: texts in memory of their own (the base's CopyTexts).
-/
import Derived.Test.YtccdnieoaejgdaaGreatDoorT2AW
import Derived.Test.YtccdnieoaejgdaaGreatDoorT2AX
import Derived.Test.YtccdnieoaejgdaaGreatDoorT2BC
import Derived.Test.YtccdnieoaejgdaaGreatDoorT2BE
import Derived.Test.YtccdnieoaejgdaaGreatDoorT2AJ
import Derived.Test.YtccdnieoaejgdaaGreatDoorT2BD
import Derived.Test.YtccdnieoaejgdaaGreatDoorT2BA
set_option linter.unusedVariables false
set_option linter.unusedSimpArgs false
set_option linter.unusedSectionVars false
namespace Go.Proofs.YtccdnieoaejgdaaGreatDoor
open Go.RowKit

def shelf : ByteArray := ⟨#[115, 104, 101, 108, 102, 102, 117, 108]⟩
def tableS : ByteArray := ⟨#[116, 97, 98, 108, 101]⟩
def fflS : ByteArray := ⟨#[102, 102, 108]⟩
theorem aw_sorts : sortsV face house shelf = [5, 6, 0, 3, 1, 1, 4, 3] ∧ sortsE face house shelf = 0 := by decide +kernel
theorem aw_few : fewV face house fflS = [1, 11] ∧ fewE face house fflS = 0 := by decide +kernel
theorem aw_hy : insL tableS.data.toList (hyW house tableS.data.toList) = [116, 97, 98, 45, 108, 101] ∧ ruledE house tableS = 0 := by decide +kernel
def awLines (a b : Option Addr) : List LN := [⟨1, ⟨a, 3, [0, 1, 7]⟩⟩, ⟨1, ⟨b, 4, [9, 0, 12, 3]⟩⟩]
theorem aw_back (a b : Option Addr) : backE face (awLines a b) [true, false] = 0 ∧ backV face (awLines a b) [true, false] = [[101, 102, 102, 105, 101], [108]] := by
  have e : lineZs (awLines a b) = [[0, 1, 7], [9, 0, 12, 3]] := rfl
  unfold backE backV
  rw [e]
  decide +kernel
theorem ri_blkT {w : World} {g : Nat} {zs : List Int} (h : Blk w g 3 (zs.map (Value.int .i64)).toArray) (hl : zs.length ≤ 1000000) : RI w (some ⟨g, 0, none⟩) zs.length zs :=
  ⟨rfl, by omega, fun _ => ⟨g, 0, rfl, h.lt, fun k hk => by
    rw [Nat.zero_add]
    refine h.cell k _ ?_
    simp [List.getD_eq_getElem?_getD, hk]⟩⟩
theorem rs_blk {w : World} {g : Nat} {ss : List ByteArray} (h : Blk w g 9 (ss.map Value.string).toArray) (hl : ss.length ≤ 1000000) : RS w (some ⟨g, 0, none⟩) ss.length ss :=
  ⟨rfl, by omega, fun _ => ⟨g, 0, rfl, h.lt, fun k hk => by
    rw [Nat.zero_add]
    refine h.cell k _ ?_
    simp [List.getD_eq_getElem?_getD, hk]⟩⟩
theorem rs_rc {w : World} {A : Option Addr} {ws : List (List UInt8)} (h : RC w A ws.length 1 (strVs ws)) (hl : ws.length ≤ 1000000) : RS w A (ws.map strL).length (ws.map strL) := by
  refine ⟨rfl, by simp; omega, fun hn => ?_⟩
  obtain ⟨b, off, h1, h2, h3⟩ := h.2.2 (by simpa using hn)
  refine ⟨b, off, h1, h2, fun k hk => h3 k _ ?_⟩
  have hk : k < ws.length := by simpa using hk
  unfold strVs
  rw [List.getElem?_map, List.getElem?_eq_getElem hk, List.getD_eq_getElem?_getD, List.getElem?_map, List.getElem?_eq_getElem hk]; rfl
/-- The lines of the example in memory. -/
theorem aw_lit (w : World) : RLN ((((w.alloc (.cells #[.int .i64 0, .int .i64 1, .int .i64 7] 3)).alloc (.cells #[.int .i64 9, .int .i64 0, .int .i64 12, .int .i64 3] 3)).alloc (.cells #[.int .i64 1, .slice (some ⟨w.heap.size, 0, none⟩) 3 3, .int .i64 1, .slice (some ⟨w.heap.size + 1, 0, none⟩) 4 4] 73)).alloc (.cells #[.bool true, .bool false] 4)) (some ⟨w.heap.size + 1 + 1, 0, none⟩) 2 (awLines (some ⟨w.heap.size, 0, none⟩) (some ⟨w.heap.size + 1, 0, none⟩)) ∧
    RC ((((w.alloc (.cells #[.int .i64 0, .int .i64 1, .int .i64 7] 3)).alloc (.cells #[.int .i64 9, .int .i64 0, .int .i64 12, .int .i64 3] 3)).alloc (.cells #[.int .i64 1, .slice (some ⟨w.heap.size, 0, none⟩) 3 3, .int .i64 1, .slice (some ⟨w.heap.size + 1, 0, none⟩) 4 4] 73)).alloc (.cells #[.bool true, .bool false] 4)) (some ⟨w.heap.size + 1 + 1 + 1, 0, none⟩) 2 1 ([true, false].map .bool) := by
  have h0 := Blk.new w 3 #[.int .i64 0, .int .i64 1, .int .i64 7]
  generalize hW0 : w.alloc (.cells #[.int .i64 0, .int .i64 1, .int .i64 7] 3) = w0 at *
  have s0 : w0.heap.size = w.heap.size + 1 := by rw [← hW0]; simp
  have h1 := Blk.new w0 3 #[.int .i64 9, .int .i64 0, .int .i64 12, .int .i64 3]
  rw [s0] at h1
  generalize hW1 : w0.alloc (.cells #[.int .i64 9, .int .i64 0, .int .i64 12, .int .i64 3] 3) = w1 at *
  have s1 : w1.heap.size = w.heap.size + 1 + 1 := by rw [← hW1, World.size_alloc, s0]
  have h2 := Blk.new w1 73 #[.int .i64 1, .slice (some ⟨w.heap.size, 0, none⟩) 3 3, .int .i64 1, .slice (some ⟨w.heap.size + 1, 0, none⟩) 4 4]
  rw [s1] at h2
  generalize hW2 : w1.alloc (.cells #[.int .i64 1, .slice (some ⟨w.heap.size, 0, none⟩) 3 3, .int .i64 1, .slice (some ⟨w.heap.size + 1, 0, none⟩) 4 4] 73) = w2 at *
  have s2 : w2.heap.size = w.heap.size + 1 + 1 + 1 := by rw [← hW2, World.size_alloc, s1]
  have h3 := Blk.new w2 4 #[.bool true, .bool false]
  rw [s2] at h3
  generalize hW3 : w2.alloc (.cells #[.bool true, .bool false] 4) = w3 at *
  have e1 : Ext w0 w1 := by rw [← hW1]; exact (Ext.refl _).alloc _
  have e2 : Ext w1 w2 := by rw [← hW2]; exact (Ext.refl _).alloc _
  have e3 : Ext w2 w3 := by rw [← hW3]; exact (Ext.refl _).alloc _
  have r1 := ri_blkT (zs := [0, 1, 7]) (h0.ext (e1.trans (e2.trans e3))) (by decide)
  have r2 := ri_blkT (zs := [9, 0, 12, 3]) (h1.ext (e2.trans e3)) (by decide)
  have h2' := h2.ext e3
  refine ⟨⟨rfl, by decide, fun _ => ⟨_, 0, rfl, h2'.lt, fun k hk => ?_⟩, fun k hk => ?_⟩, RC.blk h3 rfl (by decide)⟩
  · rcases (show k = 0 ∨ k = 1 by omega) with rfl | rfl <;> exact ⟨h2'.cell _ _ rfl, h2'.cell _ _ rfl⟩
  · rcases (show k = 0 ∨ k = 1 by omega) with rfl | rfl
    · exact r1
    · exact r2
theorem house_short : ShortU house := by
  refine ⟨⟨by decide, fun k hk => ?_⟩, ⟨by decide, fun k hk => absurd hk (by simp [house])⟩, ⟨by decide, fun k hk => ?_⟩⟩
  · have hk : k < 3 := hk
    rcases (show k = 0 ∨ k = 1 ∨ k = 2 by omega) with rfl | rfl | rfl <;> decide
  · have hk : k < 1 := hk
    obtain rfl : k = 0 := by omega
    decide
set_option maxRecDepth 100000 in
set_option maxHeartbeats 8000000 in
theorem awake2_any (w : World) : Calls Tryz.prog 13 #[] w (Ret (.bool true) w) := by
  have CF := Lib.hid fun W => face_any W
  have CH := Lib.hid fun W => house_any W
  have CS : Hid (∀ W A c a, FR W A c face → RuR W a house → Calls Tryz.prog 26 #[face.val A c, house.val a, .string ⟨#[115, 104, 101, 108, 102, 102, 117, 108]⟩] W (RetSE [5, 6, 0, 3, 1, 1, 4, 3] 0 W)) := Lib.hid fun W A c a h1 h2 => by
    have h := SortsOf_any face A c house a shelf W h1 h2 house_short (by decide)
    rwa [aw_sorts.1, aw_sorts.2] at h
  have CW : Hid (∀ W A c a, FR W A c face → RuR W a house → Calls Tryz.prog 53 #[face.val A c, house.val a, .string ⟨#[102, 102, 108]⟩] W (RetSE [1, 11] 0 W)) := Lib.hid fun W A c a h1 h2 => by
    have h := FewestSorts_any face A c house a fflS W h1 h2 house_short (by decide)
    rwa [aw_few.1, aw_few.2] at h
  have CY : Hid (∀ W a, RuR W a house → Calls Tryz.prog 17 #[house.val a, .string ⟨#[116, 97, 98, 108, 101]⟩] W (RetTE ⟨#[116, 97, 98, 45, 108, 101]⟩ 0 W)) := Lib.hid fun W a h2 => by
    have h := Hyphened_any house a tableS W h2 house_short (by decide)
    rw [if_pos aw_hy.2, aw_hy.1, aw_hy.2] at h
    exact h
  have CB : Hid (∀ W A c, FR W A c face → Calls Tryz.prog 40 #[face.val A c, .slice (some ⟨W.heap.size + 1 + 1, 0, none⟩) 2 2, .slice (some ⟨W.heap.size + 1 + 1 + 1, 0, none⟩) 2 2] ((((W.alloc (.cells #[.int .i64 0, .int .i64 1, .int .i64 7] 3)).alloc (.cells #[.int .i64 9, .int .i64 0, .int .i64 12, .int .i64 3] 3)).alloc (.cells #[.int .i64 1, .slice (some ⟨W.heap.size, 0, none⟩) 3 3, .int .i64 1, .slice (some ⟨W.heap.size + 1, 0, none⟩) 4 4] 73)).alloc (.cells #[.bool true, .bool false] 4))
      (fun e w' => ∃ P c, e = .returned (.tuple #[.slice P 2 c, .int .i64 0]) ∧ RS w' P 2 [⟨#[101, 102, 102, 105, 101]⟩, ⟨#[108]⟩] ∧ Ext W w')) := Lib.hid fun W A c h => by
    obtain ⟨h1, h2⟩ := aw_lit W
    have := ReadBack_any face A c _ 2 _ _ 2 [true, false] _ (h.ext (by repeat (first | exact Ext.refl _ | assumption | refine Ext.alloc ?_ _ | refine Ext.drew ?_ | refine Ext.drewN ?_ _ | (refine Ext.setCell ?_ (by simp <;> omega) _) | refine Ext.trans ?_ (by assumption)))) h1 h2 (show 2 ≤ 9223372036854775807 by decide) (by decide)
    rw [(aw_back _ _).1, (aw_back _ _).2] at this
    exact this.mono fun e w' ⟨P, c, q1, q2, q3⟩ => ⟨P, c, q1, rs_rc q2 (by decide), Ext.trans (by repeat (first | exact Ext.refl _ | assumption | refine Ext.alloc ?_ _ | refine Ext.drew ?_ | refine Ext.drewN ?_ _ | (refine Ext.setCell ?_ (by simp <;> omega) _) | refine Ext.trans ?_ (by assumption))) q3⟩
  generalize face = fc at *
  generalize house = hs at *
  go_enter Tryz.func13, Tryz.ntmps13
  go_upto_region 5 with (first | (go_at_call 60; refine Calls.mono (CF.out _) ?_; rintro e1 w1 ⟨A1, c1, rfl, hfr, hxf⟩; have HFR := Lib.hid hfr; have HXF := Lib.hid hxf; clear hfr) | (go_at_call 61; refine Calls.mono (CH.out _) ?_; rintro e2 w2 ⟨a2, rfl, hru, hxh⟩; have HRU := Lib.hid hru; clear hru) | (go_at_call 26; refine Calls.mono (CS.out _ _ _ _ (HFR.out.ext (by repeat (first | exact Ext.refl _ | assumption | refine Ext.alloc ?_ _ | refine Ext.drew ?_ | refine Ext.drewN ?_ _ | (refine Ext.setCell ?_ (by simp <;> omega) _) | refine Ext.trans ?_ (by assumption)))) HRU.out) ?_; rintro e3 w3 ⟨A3, c3, rfl, hs3, hx3⟩; have HS3 := Lib.hid hs3; clear hs3) | (go_at_call 17; refine Calls.mono (CY.out _ _ HRU.out) ?_; rintro e4 w4 ⟨rfl, hx4⟩) | (go_at_call 53; refine Calls.mono (CW.out _ _ _ _ (HFR.out.ext (by repeat (first | exact Ext.refl _ | assumption | refine Ext.alloc ?_ _ | refine Ext.drew ?_ | refine Ext.drewN ?_ _ | (refine Ext.setCell ?_ (by simp <;> omega) _) | refine Ext.trans ?_ (by assumption)))) HRU.out) ?_; rintro e5 w5 ⟨A5, c5, rfl, hs5, hx5⟩; have HS5 := Lib.hid hs5; clear hs5) | (go_at_call 40; refine Calls.mono (CB.out _ _ _ HFR.out) ?_; rintro e6 w6 ⟨A6, c6, rfl, hs6, hx6⟩; have HS6 := Lib.hid hs6; clear hs6))
  have HI3 := Lib.hid ((HS3.out.ext (by repeat (first | exact Ext.refl _ | assumption | refine Ext.alloc ?_ _ | refine Ext.drew ?_ | refine Ext.drewN ?_ _ | (refine Ext.setCell ?_ (by simp <;> omega) _) | refine Ext.trans ?_ (by assumption))) : SL w6 _ A3 c3 [5, 6, 0, 3, 1, 1, 4, 3]).ri)
  have HI5 := Lib.hid ((HS5.out.ext (by repeat (first | exact Ext.refl _ | assumption | refine Ext.alloc ?_ _ | refine Ext.drew ?_ | refine Ext.drewN ?_ _ | (refine Ext.setCell ?_ (by simp <;> omega) _) | refine Ext.trans ?_ (by assumption))) : SL w6 _ A5 c5 [1, 11]).ri)
  have HI6 : Hid (RS w6 A6 2 [⟨#[101, 102, 102, 105, 101]⟩, ⟨#[108]⟩]) := HS6
  have HX : Hid (Ext w w6) := Lib.hid (by repeat (first | exact Ext.refl _ | assumption | refine Ext.alloc ?_ _ | refine Ext.drew ?_ | refine Ext.drewN ?_ _ | (refine Ext.setCell ?_ (by simp <;> omega) _) | refine Ext.trans ?_ (by assumption)))
  clear HS3 HS5 HS6
  go_wp2_with (first | (have hq := hx7; clear hq; go_at_call 19; refine Calls.mono (ints_any _ _ _ _ [1, 11] [1, 11] _ (HI5.out.ext (by repeat (first | exact Ext.refl _ | assumption | refine Ext.alloc ?_ _ | refine Ext.drew ?_ | refine Ext.drewN ?_ _ | (refine Ext.setCell ?_ (by simp <;> omega) _) | refine Ext.trans ?_ (by assumption)))) (ri_blkT (Blk.new _ _ _) (by decide))) ?_; rintro e8 w8 ⟨rfl, hx8⟩) | (go_at_call 19; refine Calls.mono (ints_any _ _ _ _ [5, 6, 0, 3, 1, 1, 4, 3] [5, 6, 0, 3, 1, 1, 4, 3] _ (HI3.out.ext (by repeat (first | exact Ext.refl _ | assumption | refine Ext.alloc ?_ _ | refine Ext.drew ?_ | refine Ext.drewN ?_ _ | (refine Ext.setCell ?_ (by simp <;> omega) _) | refine Ext.trans ?_ (by assumption)))) (ri_blkT (Blk.new _ _ _) (by decide))) ?_; rintro e7 w7 ⟨rfl, hx7⟩) | (go_at_call 41; refine Calls.mono (texts_any _ _ _ _ [⟨#[101, 102, 102, 105, 101]⟩, ⟨#[108]⟩] [⟨#[101, 102, 102, 105, 101]⟩, ⟨#[108]⟩] _ (HI6.out.ext (by repeat (first | exact Ext.refl _ | assumption | refine Ext.alloc ?_ _ | refine Ext.drew ?_ | refine Ext.drewN ?_ _ | (refine Ext.setCell ?_ (by simp <;> omega) _) | refine Ext.trans ?_ (by assumption)))) (rs_blk (Blk.new _ _ _) (by decide))) ?_; rintro e9 w9 ⟨rfl, hx9⟩))
  go_ret
  exact Ret.mk' rfl (HX.out.trans (by repeat (first | exact Ext.refl _ | assumption | refine Ext.alloc ?_ _ | refine Ext.drew ?_ | refine Ext.drewN ?_ _ | (refine Ext.setCell ?_ (by simp <;> omega) _) | refine Ext.trans ?_ (by assumption))))
end Go.Proofs.YtccdnieoaejgdaaGreatDoor
namespace Go.Proofs.YtccdnieoaejgdaaGreatDoor

/-- A byte that may stand in an exception (letters) or a bar. -/
def mkB (letters : Bool) (b : UInt8) : Bool := if letters = true then smC b.toNat else decide (33 ≤ (b.toNat : Int)) && decide ((b.toNat : Int) ≤ 126)
def rmTo (letters : Bool) (m : UInt8) (l : List UInt8) : Nat → Option (List UInt8 × List Int)
  | 0 => some ([], [])
  | n + 1 => match rmTo letters m l n with
    | none => none
    | some (w, ps) =>
      if l.getD n 0 = m then (if n = 0 ∨ n + 1 = l.length ∨ l.getD (n - 1) 0 = m then none else some (w, ps ++ [(w.length : Int)]))
      else if mkB letters (l.getD n 0) = true then some (w ++ [l.getD n 0], ps) else none
theorem rmTo_mk (letters : Bool) (m : UInt8) (l : List UInt8) : ∀ n, rmTo letters m l n = match mkTo l m n with
    | none => none
    | some x => if x.1.all (mkB letters) = true then some x else none
  | 0 => rfl
  | n + 1 => by
    rw [rmTo, mkTo, rmTo_mk letters m l n]
    cases h : mkTo l m n with
    | none => rfl
    | some x =>
      obtain ⟨w, ps⟩ := x
      simp only
      by_cases h1 : w.all (mkB letters) = true
      · rw [if_pos h1]
        simp only
        by_cases h2 : l.getD n 0 = m
        · rw [if_pos h2, if_pos h2]
          by_cases h3 : n = 0 ∨ n + 1 = l.length ∨ l.getD (n - 1) 0 = m
          · rw [if_pos h3]
          · rw [if_neg h3]; simp only; rw [if_pos h1]
        · rw [if_neg h2, if_neg h2]
          simp only [List.all_append, List.all_cons, List.all_nil, Bool.and_true, h1, Bool.true_and]
      · rw [if_neg h1]
        simp only
        by_cases h2 : l.getD n 0 = m
        · rw [if_pos h2]
          by_cases h3 : n = 0 ∨ n + 1 = l.length ∨ l.getD (n - 1) 0 = m
          · rw [if_pos h3]
          · rw [if_neg h3]; simp only; rw [if_neg h1]
        · rw [if_neg h2]
          simp only [List.all_append, Bool.and_eq_true, List.all_cons, List.all_nil, Bool.and_true]
          rw [if_neg (fun h4 => h1 h4.1)]
theorem rmTo_none {letters : Bool} {m : UInt8} {l : List UInt8} {k : Nat} (h : rmTo letters m l k = none) : ∀ n, k ≤ n → rmTo letters m l n = none
  | 0, hn => by rw [show k = 0 by omega] at h; exact h
  | n + 1, hn => by
    rcases Nat.lt_or_ge n k with h1 | h1
    · rw [show n + 1 = k by omega]; exact h
    · rw [rmTo, rmTo_none h n h1]
theorem rmTo_bd {letters : Bool} {m : UInt8} {l : List UInt8} : ∀ {n : Nat} {x : List UInt8 × List Int}, rmTo letters m l n = some x → x.1.length + x.2.length = n
  | 0, x, h => by cases h; rfl
  | n + 1, x, h => by
    rw [rmTo] at h
    cases hq : rmTo letters m l n with
    | none => rw [hq] at h; cases h
    | some q =>
      obtain ⟨w, ps⟩ := q
      rw [hq] at h
      have ih := rmTo_bd hq
      simp only at h ih
      split at h
      · split at h
        · cases h
        · cases h; simp; omega
      · split at h
        · cases h; simp; omega
        · cases h
/-- What readMarked answers: the word, the places, whether it is right. -/
def rmW (letters : Bool) (m : UInt8) (l : List UInt8) : List UInt8 := ((rmTo letters m l l.length).getD ([], [])).1
def rmP (letters : Bool) (m : UInt8) (l : List UInt8) : List Int := ((rmTo letters m l l.length).getD ([], [])).2
def rmB (letters : Bool) (m : UInt8) (l : List UInt8) : Bool := decide (1 ≤ (rmW letters m l).length) && decide ((rmW letters m l).length ≤ 30)
theorem mkB_all {letters : Bool} {w : List UInt8} : w.all (mkB letters) = if letters = true then smallL w else printL w := by
  cases letters <;> rfl
/-- An exception or a bar is right just if it is read and, a bar, has a mark. -/
theorem mkOf_rm (letters : Bool) (m : UInt8) (l : List UInt8) : mkOf letters m l = if rmB letters m l = true ∧ (letters = true ∨ 0 < (rmP letters m l).length) then some (rmW letters m l, rmP letters m l) else none := by
  unfold mkOf mkAll rmB rmW rmP
  by_cases hl : l = []
  · subst hl
    rw [if_pos rfl, if_neg]
    intro h
    have h1 := h.1
    simp [rmTo] at h1
  · rw [if_neg hl]
    cases h : mkTo l m l.length with
    | none =>
      have hr : rmTo letters m l l.length = none := by rw [rmTo_mk, h]
      rw [hr]; simp
    | some x =>
      have hr : rmTo letters m l l.length = if (if letters = true then smallL x.1 else printL x.1) = true then some x else none := by rw [rmTo_mk, h]; simp only [mkB_all]
      unfold mkOk
      cases letters
      · simp only [Bool.false_eq_true, if_false] at hr
        cases hp : printL x.1
        · rw [hp] at hr
          rw [hr]; simp [hp]
        · rw [hp] at hr
          rw [hr]
          by_cases h1 : x.1.length ≤ 30 <;> by_cases h2 : 1 ≤ x.1.length <;> simp [h1, h2, hp]
      · simp only [if_true] at hr
        cases hp : smallL x.1
        · rw [hp] at hr
          rw [hr]; simp [hp]
        · rw [hp] at hr
          rw [hr]; simp [hp]
end Go.Proofs.YtccdnieoaejgdaaGreatDoor
namespace Go.Proofs.YtccdnieoaejgdaaGreatDoor
open Go.RowKit Go.Lib

def RetRM (lt : Bool) (m : UInt8) (l : List UInt8) (w : World) (e : Ending) (w' : World) : Prop :=
  ∃ v, e = .returned (.tuple #[.string (strL (rmW lt m l)), v, .bool (rmB lt m l)]) ∧ Own w' w.heap.size v (rmP lt m l) ∧ Ext w w'
theorem rm_fail {lt : Bool} {m : UInt8} {l : List UInt8} (h : rmTo lt m l l.length = none) : rmW lt m l = [] ∧ rmP lt m l = [] ∧ rmB lt m l = false := by
  unfold rmB rmW rmP
  rw [h]
  exact ⟨rfl, rfl, rfl⟩
theorem rm_done {lt : Bool} {m : UInt8} {l : List UInt8} {x : List UInt8 × List Int} (h : rmTo lt m l l.length = some x) : rmW lt m l = x.1 ∧ rmP lt m l = x.2 ∧ rmB lt m l = (decide (1 ≤ x.1.length) && decide (x.1.length ≤ 30)) := by
  unfold rmB rmW rmP
  rw [h]
  exact ⟨rfl, rfl, rfl⟩
theorem cut_list (s : ByteArray) (a b : Nat) : (s.extract a b).data.toList = (s.data.toList.take b).drop a := by
  rw [ByteArray.data_extract, Array.toList_extract, List.extract_eq_take_drop, ← List.drop_take]
theorem byte_cut (s : ByteArray) (k : Nat) (h : k < s.size) : s.extract k (k + 1) = strL [s.data.toList.getD k 0] := by
  refine bytes_ext ?_
  rw [strL_list]
  apply List.ext_getElem
  · simp [ByteArray.size_extract]; omega
  · intro i h1 h2
    have h0 : i = 0 := by simp at h2; exact h2
    subst h0
    have h3 : k < s.data.size := h
    simp [List.getD_eq_getElem?_getD, ByteArray.data_extract]
    rw [Array.getElem?_eq_getElem h3]; rfl
theorem rm_step {lt : Bool} {m : UInt8} {l : List UInt8} {k : Nat} {x : List UInt8 × List Int} (h : rmTo lt m l k = some x) :
    rmTo lt m l (k + 1) = if l.getD k 0 = m then (if k = 0 ∨ k + 1 = l.length ∨ l.getD (k - 1) 0 = m then none else some (x.1, x.2 ++ [(x.1.length : Int)])) else if mkB lt (l.getD k 0) = true then some (x.1 ++ [l.getD k 0], x.2) else none := by
  rw [rmTo, h]
set_option maxRecDepth 100000 in
set_option maxHeartbeats 4000000 in
theorem readMarked_any (s : ByteArray) (m : UInt8) (mz : Int) (hm : mz = (m.toNat : Int)) (lt : Bool) (w : World) (hs : s.size ≤ 100000) :
    Calls Tryz.prog 65 #[.string s, .int .u8 mz, .bool lt] w (RetRM lt m s.data.toList w) := by
  obtain ⟨l, hl⟩ : ∃ l, l = s.data.toList := ⟨_, rfl⟩
  rw [← hl]
  have HL : Hid (l.length = s.size) := Lib.hid (by rw [hl]; simp)
  have HBY : Hid (∀ k (h : k < s.size), (s[k].toNat : Int) = bya l k ∧ s.extract k (k + 1) = strL [l.getD k 0]) := Lib.hid (fun k h => by rw [hl]; exact ⟨bya_byte s k h, byte_cut s k h⟩)
  have HM := Lib.hid hm
  have CSS := Lib.hid fun c W => rIsSmall_any c W
  have CBB := Lib.hid fun c W => rIsByte_any c W
  clear hl hm
  have hsz : s.size ≤ 9223372036854775807 := by omega
  go_enter Tryz.func65, Tryz.ntmps65
  go_upto_region 4 with fail
  go_loopw [9, 10, 11] (fun v9 v10 v11 wr => ∃ (k : Nat) (x : List UInt8 × List Int), k ≤ s.size ∧ v9 = .string (strL x.1) ∧ v11 = .int .i64 (k : Int) ∧ Hid (rmTo lt m l k = some x) ∧ Hid (Own wr w.heap.size v10 x.2) ∧ Hid (Ext w wr)) (fun _ _ v11 _ => s.size - (intOf v11).toNat)
  case atStart => exact ⟨0, ([], []), Nat.zero_le _, rfl, rfl, Lib.hid rfl, Lib.hid (Own.nil _ _), Lib.hid (Ext.refl _)⟩
  case round =>
    obtain ⟨k, x, hk, rfl, rfl, HT, HO, HX⟩ := hrel
    have HBD := Lib.hid (rmTo_bd HT.out)
    by_cases hlt : k < s.size
    case pos =>
      have ik : (k : Int) < (s.size : Int) := by omega
      have HB := Lib.hid (HBY.out k hlt).1
      have HC := Lib.hid (HBY.out k hlt).2
      have HN := Lib.hid (rm_step HT.out)
      generalize hx : (s[k].toNat : Int) = c at *
      have CS := Lib.hid (CSS.out c)
      have CB := Lib.hid (CBB.out c)
      by_cases he : c = mz
      case pos =>
        -- BEGIN A
        have HE : Hid (l.getD k 0 = m) := Lib.hid (UInt8.toNat_inj.1 (by have h := HB.out; unfold bya at h; rw [he, HM.out] at h; omega))
        have u1 : IntKind.i64.wrap ((s.size : Int) - 1) = (s.size : Int) - 1 := IntWalk.i64_in _ (by omega)
        have u2 : IntKind.i64.wrap ((k : Int) - 1) = (k : Int) - 1 := IntWalk.i64_in _ (by omega)
        by_cases h0 : k = 0
        case pos =>
          subst h0
          have HF := Lib.hid (rm_fail (rmTo_none (show rmTo lt m l (0 + 1) = none by rw [HN.out, if_pos HE.out, if_pos (.inl rfl)]) l.length (by rw [HL.out]; omega)))
          go_wp2
          go_ret3
          exact ⟨_, by rw [HF.out.1, HF.out.2.2]; rfl, by rw [HF.out.2.1]; exact Own.nil _ _, HX.out⟩
        case neg =>
          have i0 : ¬ (k : Int) = 0 := by omega
          by_cases h1 : k + 1 = s.size
          case pos =>
            have i1 : (s.size : Int) - 1 = (k : Int) := by omega
            rw [i1] at u1
            have HF := Lib.hid (rm_fail (rmTo_none (show rmTo lt m l (k + 1) = none by rw [HN.out, if_pos HE.out, if_pos (.inr (.inl (by rw [HL.out]; exact h1)))]) l.length (by rw [HL.out]; omega)))
            go_wp2
            go_ret3
            exact ⟨_, by rw [HF.out.1, HF.out.2.2]; rfl, by rw [HF.out.2.1]; exact Own.nil _ _, HX.out⟩
          case neg =>
            have i1 : ¬ (k : Int) = (s.size : Int) - 1 := by omega
            obtain ⟨j, hkj⟩ : ∃ j, k = j + 1 := ⟨k - 1, by omega⟩
            have i2 : (k : Int) - 1 = (j : Int) := by omega
            have HKJ := Lib.hid hkj
            clear hkj
            have hj : j < s.size := by have := HKJ.out; omega
            have ij : (j : Int) < (s.size : Int) := by omega
            have HBJ := Lib.hid (HBY.out j hj).1
            rw [i2] at u2
            generalize hx2 : (s[j].toNat : Int) = d at *
            by_cases h2 : d = mz
            case pos =>
              have HF := Lib.hid (rm_fail (rmTo_none (show rmTo lt m l (k + 1) = none by
                rw [HN.out, if_pos HE.out, if_pos (.inr (.inr (by
                  have h := HBJ.out; unfold bya at h; rw [h2, HM.out] at h
                  exact UInt8.toNat_inj.1 (by rw [HKJ.out, Nat.add_sub_cancel]; omega))))]) l.length (by rw [HL.out]; omega)))
              go_wp2
              go_ret3
              exact ⟨_, by rw [HF.out.1, HF.out.2.2]; rfl, by rw [HF.out.2.1]; exact Own.nil _ _, HX.out⟩
            case neg =>
              have HF : Hid (rmTo lt m l (k + 1) = some (x.1, x.2 ++ [(x.1.length : Int)])) := Lib.hid (by
                rw [HN.out, if_pos HE.out, if_neg]
                rintro (h | h | h)
                · omega
                · rw [HL.out] at h; omega
                · rw [HKJ.out, Nat.add_sub_cancel] at h
                  refine h2 (by rw [HBJ.out, HM.out]; unfold bya; rw [h]))
              have b0 : ((k : Int) == 0) = false := beq_false_of_ne i0
              have b1 : ((k : Int) == (s.size : Int) - 1) = false := beq_false_of_ne i1
              have b2 : (d == mz) = false := beq_false_of_ne h2
              have hx1 : (strL x.1).size = x.1.length := strL_size _
              have hxl : x.1.length ≤ 1000000 := by have := HBD.out; omega
              go_upto_region 5 with (first | (at_builtin; refine list_push rfl (.tmp 40) (.tmp 43) rfl w.heap.size _ x.2 rfl (HO.out.ext (by repeat (first | exact Ext.refl _ | assumption | refine Ext.alloc ?_ _ | refine Ext.drew ?_ | refine Ext.drewN ?_ _ | (refine Ext.setCell ?_ (by simp <;> omega) _) | refine Ext.trans ?_ (by assumption)))) wr.heap.size (x.1.length : Int) rfl (by simp [hx1]) (by have := HBD.out; omega) (by have := HX.out.size; simp; omega) ?_; intro v' w4 ho hg; have HO4 := Lib.hid ho; have HX4 : Hid (Ext w w4) := Lib.hid (own_ext hg (HO.out.ext (by repeat (first | exact Ext.refl _ | assumption | refine Ext.alloc ?_ _ | refine Ext.drew ?_ | refine Ext.drewN ?_ _ | (refine Ext.setCell ?_ (by simp <;> omega) _) | refine Ext.trans ?_ (by assumption)))) (HX.out.trans (by repeat (first | exact Ext.refl _ | assumption | refine Ext.alloc ?_ _ | refine Ext.drew ?_ | refine Ext.drewN ?_ _ | (refine Ext.setCell ?_ (by simp <;> omega) _) | refine Ext.trans ?_ (by assumption))))); clear ho hg))
              go_wp2
              go_roundw
              case rel => exact ⟨k + 1, (x.1, x.2 ++ [(x.1.length : Int)]), by omega, rfl, by go_num, HF, HO4, HX4⟩
              case measure => simp [intOf]; omega
        -- END A
      case neg =>
        -- BEGIN B
        have HNE : Hid (l.getD k 0 ≠ m) := Lib.hid (fun h => he (by rw [HB.out, HM.out]; unfold bya; rw [h]))
        have HOK : Hid (mkB lt (l.getD k 0) = if lt = true then smC c else decide (33 ≤ c) && decide (c ≤ 126)) := Lib.hid (by
          unfold mkB; have h := HB.out; unfold bya at h; rw [← h])
        have HE := Lib.hid (HBY.out k hlt).2
        have hek : s.extract k (k + 1) = strL [l.getD k 0] := HE.out
        have i3 : (k : Int) + 1 ≤ (s.size : Int) := by omega
        have i4 : (k : Int) ≤ (k : Int) + 1 := by omega
        have hx1 : (strL x.1).size = x.1.length := strL_size _
        have hx2 : (strL [l.getD k 0]).size = 1 := rfl
        have hap : strL x.1 ++ strL [l.getD k 0] = strL (x.1 ++ [l.getD k 0]) := strL_append _ _
        have hxl : x.1.length ≤ 1000000 := by have := HBD.out; omega
        have HGO : Hid (mkB lt (l.getD k 0) = true → rmTo lt m l (k + 1) = some (x.1 ++ [l.getD k 0], x.2)) := Lib.hid (fun h => by rw [HN.out, if_neg HNE.out, if_pos h])
        have HST : Hid (mkB lt (l.getD k 0) = false → rmW lt m l = [] ∧ rmP lt m l = [] ∧ rmB lt m l = false) := Lib.hid (fun h => rm_fail (rmTo_none (show rmTo lt m l (k + 1) = none by rw [HN.out, if_neg HNE.out, if_neg (by rw [h]; simp)]) l.length (by rw [HL.out]; omega)))
        clear HBY HE
        generalize l.getD k 0 = b at *
        cases lt
        case false =>
          cases hib : (decide (33 ≤ c) && decide (c ≤ 126))
          case true =>
            rw [hib] at CB
            have HF := Lib.hid (HGO.out (by rw [HOK.out]; exact hib))
            clear HST HGO hib CBB
            go_wp2_with (first | (go_at_call 109; refine Calls.mono (CS.out _) ?_; rintro e w3 ⟨rfl, rfl⟩) | (go_at_call 75; refine Calls.mono (CB.out _) ?_; rintro e w3 ⟨rfl, rfl⟩))
            go_roundw
            case rel => exact ⟨k + 1, (x.1 ++ [b], x.2), by omega, rfl, by go_num, HF, HO, HX⟩
            case measure => simp [intOf]; omega
          case false =>
            rw [hib] at CB
            have HF := Lib.hid (HST.out (by rw [HOK.out]; exact hib))
            clear HST HGO hib CBB
            go_wp2_with (first | (go_at_call 109; refine Calls.mono (CS.out _) ?_; rintro e w3 ⟨rfl, rfl⟩) | (go_at_call 75; refine Calls.mono (CB.out _) ?_; rintro e w3 ⟨rfl, rfl⟩))
            go_ret3
            exact ⟨_, by rw [HF.out.1, HF.out.2.2]; rfl, by rw [HF.out.2.1]; exact Own.nil _ _, HX.out⟩
        case true =>
          cases hsm : smC c
          case true =>
            have hib : (decide (33 ≤ c) && decide (c ≤ 126)) = true := by
              have h := smC_iff.1 hsm
              rw [decide_eq_true (by omega), decide_eq_true (by omega)]; rfl
            rw [hib] at CB
            rw [hsm] at CS
            have HF := Lib.hid (HGO.out (by rw [HOK.out]; exact hsm))
            clear HST HGO hib hsm CBB CSS
            go_wp2_with (first | (go_at_call 109; refine Calls.mono (CS.out _) ?_; rintro e w3 ⟨rfl, rfl⟩) | (go_at_call 75; refine Calls.mono (CB.out _) ?_; rintro e w3 ⟨rfl, rfl⟩))
            go_roundw
            case rel => exact ⟨k + 1, (x.1 ++ [b], x.2), by omega, rfl, by go_num, HF, HO, HX⟩
            case measure => simp [intOf]; omega
          case false =>
            rw [hsm] at CS
            have HF := Lib.hid (HST.out (by rw [HOK.out]; exact hsm))
            clear HST HGO hsm CBB CSS
            go_wp2_with (first | (go_at_call 109; refine Calls.mono (CS.out _) ?_; rintro e w3 ⟨rfl, rfl⟩) | (go_at_call 75; refine Calls.mono (CB.out _) ?_; rintro e w3 ⟨rfl, rfl⟩))
            go_ret3
            exact ⟨_, by rw [HF.out.1, HF.out.2.2]; rfl, by rw [HF.out.2.1]; exact Own.nil _ _, HX.out⟩
        -- END B
    case neg =>
      -- BEGIN C
      obtain rfl : k = s.size := by omega
      have ik : ¬ (s.size : Int) < (s.size : Int) := by omega
      have HF := Lib.hid (rm_done (by rw [HL.out]; exact HT.out))
      have hx1 : (strL x.1).size = x.1.length := strL_size _
      have hxl : x.1.length ≤ 1000000 := by have := HBD.out; omega
      by_cases hz : 1 ≤ (x.1.length : Int) ∧ (x.1.length : Int) ≤ 30
      · have HB1 : Hid (rmB lt m l = true) := Lib.hid (by rw [HF.out.2.2, decide_eq_true (by omega), decide_eq_true (by omega)]; rfl)
        go_wp2_with (first | (go_at_call 57; refine Calls.mono (bWithin_yes _ _ _ _ ?_) ?_; (omega); rintro e w1 ⟨rfl, rfl⟩) | (go_at_call 57; refine Calls.mono (bWithin_no _ _ _ _ ?_) ?_; (omega); rintro e w1 ⟨rfl, rfl⟩))
        go_ret3
        exact ⟨_, by rw [HF.out.1, HB1.out]; rfl, by rw [HF.out.2.1]; exact HO.out, HX.out⟩
      · have HB1 : Hid (rmB lt m l = false) := Lib.hid (by rw [HF.out.2.2, Bool.and_eq_false_iff, decide_eq_false_iff_not, decide_eq_false_iff_not]; omega)
        go_wp2_with (first | (go_at_call 57; refine Calls.mono (bWithin_yes _ _ _ _ ?_) ?_; (omega); rintro e w1 ⟨rfl, rfl⟩) | (go_at_call 57; refine Calls.mono (bWithin_no _ _ _ _ ?_) ?_; (omega); rintro e w1 ⟨rfl, rfl⟩))
        go_ret3
        exact ⟨_, by rw [HF.out.1, HB1.out]; rfl, by rw [HF.out.2.1]; exact HO.out, HX.out⟩
      -- END C
end Go.Proofs.YtccdnieoaejgdaaGreatDoor
namespace Go.Proofs.YtccdnieoaejgdaaGreatDoor
open Go.RowKit Go.Lib

def hasT (l : List ByteArray) (s : ByteArray) : Bool := l.any fun t => decide (t = s)
theorem hasT_hit {l : List ByteArray} {s : ByteArray} {k : Nat} (hk : k < l.length) (h : l.getD k ByteArray.empty = s) : hasT l s = true := by
  unfold hasT; rw [List.any_eq_true]
  rw [List.getD_eq_getElem?_getD, List.getElem?_eq_getElem hk] at h
  exact ⟨_, List.getElem_mem _, decide_eq_true h⟩
theorem hasT_none {l : List ByteArray} {s : ByteArray} (h : ∀ q, q < l.length → l.getD q ByteArray.empty ≠ s) : hasT l s = false := by
  unfold hasT; rw [List.any_eq_false]
  intro t ht he
  obtain ⟨q, hq, rfl⟩ := List.mem_iff_getElem.1 ht
  refine h q hq ?_
  rw [List.getD_eq_getElem?_getD, List.getElem?_eq_getElem hq]
  exact of_decide_eq_true he
theorem hasT_iff {l : List ByteArray} {s : ByteArray} : hasT l s = true ↔ s ∈ l := by
  unfold hasT; simp
set_option maxRecDepth 100000 in
set_option maxHeartbeats 4000000 in
theorem hasText_any (X : Option Addr) (c : Nat) (l : List ByteArray) (x : ByteArray) (w : World) (h : RS w X l.length l) : Calls Tryz.prog 145 #[.slice X l.length c, .string x] w (Ret (.bool (hasT l x)) w) := by
  have hbig := h.2.1
  have HR := Lib.hid h; clear h
  have HV1 := Lib.hid (fun k => hasT_hit (l := l) (s := x) (k := k))
  have HV0 := Lib.hid (hasT_none (l := l) (s := x))
  generalize hasT l x = V at *
  go_enter Tryz.func145, Tryz.ntmps145
  go_wp2
  go_loopw [5] (fun j wr => ∃ k : Nat, k ≤ l.length ∧ j = .int .i64 (k : Int) ∧ w = wr ∧ Hid (∀ q, q < k → l.getD q ByteArray.empty ≠ x)) (fun j _ => l.length - (intOf j).toNat)
  case atStart => exact ⟨0, Nat.zero_le _, rfl, rfl, Lib.hid (fun q hq => absurd hq (by omega))⟩
  case round =>
    obtain ⟨k, hk, rfl, rfl, H0⟩ := hrel
    by_cases hlt : k < l.length
    case neg =>
      obtain rfl : k = l.length := by omega
      have i1 : ¬ (l.length : Int) < (l.length : Int) := by omega
      have hv := HV0.out H0.out
      subst hv
      go_wp2
      go_ret
      exact Ret.mk' rfl (by repeat (first | exact Ext.refl _ | assumption | refine Ext.alloc ?_ _ | refine Ext.drew ?_ | refine Ext.drewN ?_ _ | (refine Ext.setCell ?_ (by simp <;> omega) _) | refine Ext.trans ?_ (by assumption)))
    case pos =>
      have i1 : (k : Int) < (l.length : Int) := by omega
      obtain ⟨b, off, rfl, hbw, hcell⟩ := HR.out.2.2 (by omega)
      have ck := hcell k hlt
      have HHK := Lib.hid (fun h => HV1.out k hlt h)
      have HNX : Hid (l.getD k ByteArray.empty ≠ x → ∀ q, q < k + 1 → l.getD q ByteArray.empty ≠ x) := Lib.hid fun h q hq => by
        rcases Nat.lt_or_ge q k with h9 | h9
        · exact H0.out q h9
        · obtain rfl : q = k := by omega
          exact h
      clear hcell H0 HV1 HV0
      generalize l.getD k ByteArray.empty = y at *
      by_cases hb : y = x
      case pos =>
        have hv := HHK.out hb
        subst hb
        have e0 := str_eq_true y
        subst hv
        go_wp2
        go_ret
        exact Ret.mk' rfl (by repeat (first | exact Ext.refl _ | assumption | refine Ext.alloc ?_ _ | refine Ext.drew ?_ | refine Ext.drewN ?_ _ | (refine Ext.setCell ?_ (by simp <;> omega) _) | refine Ext.trans ?_ (by assumption)))
      case neg =>
        have e0 := str_eq_false hb
        have HN2 := Lib.hid (HNX.out hb)
        clear hb
        go_wp2
        go_roundw
        case rel => exact ⟨k + 1, by omega, by go_num, by trivial, HN2⟩
        case measure => simp [intOf] <;> omega
theorem OwnW.form {w : World} {base : Nat} {v : Value} {ws : List (List UInt8)} (h : OwnW w base v ws) (hz : ws.length ≤ 140737488351232) : ∃ A c, v = .slice A ws.length c ∧ RS w A (ws.map strL).length (ws.map strL) := by
  rcases Nat.eq_zero_or_pos ws.length with h0 | h0
  · obtain rfl := List.eq_nil_of_length_eq_zero h0
    rcases h.2 with ⟨rfl, _⟩ | ⟨g, cap, cur, rfl, _⟩
    · exact ⟨none, 0, rfl, rfl, by simp, fun h => absurd h (by simp)⟩
    · exact ⟨_, cap, rfl, rfl, by simp, fun h => absurd h (by simp)⟩
  · obtain ⟨g, cap, hv, hg, hlt⟩ := World.ownsRow.form h h0
    subst hv
    have hc := World.ownsRow.cells (g := g) h rfl
    refine ⟨_, cap, rfl, rfl, by simp; omega, fun _ => ⟨g, 0, rfl, hlt, fun k hk => ?_⟩⟩
    have hk' : k < ws.length := by simpa using hk
    have := hc k (.string (strL ws[k])) (by unfold strVs; rw [List.getElem?_map, List.getElem?_eq_getElem hk']; rfl)
    rw [show (0 + k) = k by omega, List.getD_eq_getElem?_getD, List.getElem?_map, List.getElem?_eq_getElem hk']
    unfold Addr.add at this
    by_cases hk0 : k = 0
    · subst hk0; simpa using this
    · rw [if_neg hk0] at this; simpa using this
theorem list_pushW {w : World} {ops : Array Oper} {rest : List Oper} {o : Oper} {a : Act} {Q : Exit → Act → World → Prop} (hgd : o.guard = none) (s x : Operand) (ho : o.op = .call { callee := .builtin .append, args := #[s, x], argTypes := #[22, 22] })
    (base : Nat) (v : Value) (ws : List (List UInt8)) (hs : a.eval s = v) (hown : OwnW w base v ws) (g0 : Nat) (z : List UInt8) (hx : a.eval x = .slice (some ⟨g0, 0, none⟩) 1 1) (hb : w.cell? ⟨g0, 0, none⟩ = some (.string (strL z))) (hlen : ws.length ≤ 1000000) (hbase : base ≤ w.heap.size)
    (h : ∀ v' w', OwnW w' base v' (ws ++ [z]) → w.grownBy w' v.ownBlock → wpList Tryz.prog ops Q rest (a.put o.dst v') w') : wpList Tryz.prog ops Q (o :: rest) a w := by
  refine wpList_plain hgd fun K hK => ?_
  have KE := strElt
  obtain ⟨i0, hi, hz0, hz1, hz2⟩ := KE.parts
  obtain ⟨g, cap, w', hr, h2, h3, h4, _⟩ := run_append_lies (P := Tryz.prog) w 22 o.type base 9 i0 (.string ⟨#[]⟩) 1 16 KE.und hi hz0 hz1 hz2 KE.zs KE.pos v ws.length _ hown ⟨g0, 0, none⟩ 1 1 [.string (strL z)] rfl
    (fun j u hj => by match j, hj with | 0, hj => simp at hj; subst hj; simpa [Addr.add] using hb) (fun u hu => by simp at hu; subst hu; rfl) (by decide) (by unfold maxLen; omega) (by omega) hbase _ rfl
  unfold Oper.wp execOp
  simp only [ho, resolve, invoke, builtin, Sem.run_bind, Sem.run_pure, Result.andThen_ok, List.map_toArray, List.map_cons, List.map_nil, hs, hx, hr]
  exact hK _ _ (h _ w' (by unfold OwnW strVs; simpa [strVs] using h2) h3)
end Go.Proofs.YtccdnieoaejgdaaGreatDoor
namespace Go.Proofs.YtccdnieoaejgdaaGreatDoor
open Go.RowKit Go.Lib

/-- Texts as lists of bytes. -/
def bytesOf (ss : List ByteArray) : List (List UInt8) := ss.map fun s => s.data.toList
theorem bytesOf_len (ss : List ByteArray) : (bytesOf ss).length = ss.length := by unfold bytesOf; simp
theorem bytesOf_str (ss : List ByteArray) : (bytesOf ss).map strL = ss := by
  unfold bytesOf
  rw [List.map_map]
  conv => rhs; rw [← List.map_id ss]
  exact List.map_congr_left fun s _ => strL_of s
theorem strVs_of (ss : List ByteArray) : strVs (bytesOf ss) = ss.map Value.string := by
  unfold strVs bytesOf
  rw [List.map_map]
  exact List.map_congr_left fun s _ => by show Value.string (strL s.data.toList) = _; rw [strL_of]
theorem RS.rc {w : World} {A : Option Addr} {n : Nat} {ss : List ByteArray} (h : RS w A n ss) : RC w A n 1 (ss.map Value.string) := by
  refine ⟨by rw [List.length_map, h.1]; omega, h.2.1, fun hn => ?_⟩
  obtain ⟨b, off, h1, h2, h3⟩ := h.2.2 hn
  refine ⟨b, off, h1, h2, fun j u hu => ?_⟩
  rw [List.getElem?_map] at hu
  have hj : j < ss.length := by
    rcases Nat.lt_or_ge j ss.length with h | h
    · exact h
    · rw [List.getElem?_eq_none h] at hu; cases hu
  rw [List.getElem?_eq_getElem hj] at hu
  have h4 := h3 j (by have := h.1; omega)
  rw [List.getD_eq_getElem?_getD, List.getElem?_eq_getElem hj] at h4
  simpa using h4.trans hu
theorem OwnW.lit0 (w : World) : OwnW (w.alloc (.cells #[] 9)) w.heap.size (.slice (some ⟨w.heap.size, 0, none⟩) 0 0) [] :=
  World.ownsRow_lit (e := 9) (size := 1) w #[] 0 (Nat.le_refl _) (by unfold maxLen; omega) rfl
/-- The call hands back texts of its own. -/
def RetW (ws : List (List UInt8)) (w : World) (e : Ending) (w' : World) : Prop := ∃ v, e = .returned v ∧ OwnW w' w.heap.size v ws ∧ Ext w w'
theorem OwnW.rs {w : World} {base : Nat} {v : Value} {ss : List ByteArray} (h : OwnW w base v (bytesOf ss)) (hz : ss.length ≤ 1000000) : ∃ A c, v = .slice A ss.length c ∧ RS w A ss.length ss := by
  obtain ⟨A, c, h1, h2⟩ := OwnW.form h (by rw [bytesOf_len]; omega)
  rw [bytesOf_str] at h2
  exact ⟨A, c, by rw [h1, bytesOf_len], h2⟩
set_option maxHeartbeats 1000000 in
theorem copyTexts_any (A : Option Addr) (c : Nat) (ss : List ByteArray) (w : World) (h : RS w A ss.length ss) (hl : ss.length ≤ 100000) :
    Calls Tryz.prog 44 #[.slice A ss.length c] w (RetW (bytesOf ss) w) := by
  have HX := Lib.hid h; clear h
  have HL := Lib.hid (OwnW.lit0 w)
  go_enter Tryz.func44, Tryz.ntmps44
  go_wp2_with (at_builtin; refine list_appendC strElt rfl (.tmp 3) (.tmp 4) rfl w.heap.size 0 _ [] rfl HL.out A ss.length c (ss.map Value.string) rfl (RS.rc (HX.out.ext (by repeat (first | exact Ext.refl _ | assumption | refine Ext.alloc ?_ _ | refine Ext.drew ?_ | refine Ext.drewN ?_ _ | (refine Ext.setCell ?_ (by simp <;> omega) _) | refine Ext.trans ?_ (by assumption))))) (fun u hu => by obtain ⟨s, _, rfl⟩ := List.mem_map.1 hu; rfl) (by omega) (by simp) ?_; intro v' w' ho hg; have HO := Lib.hid ho; have HXX : Hid (Ext w w') := Lib.hid (own_grown HL.out hg ((Ext.refl w).alloc _) (Nat.le_refl _)); clear ho hg)
  go_ret
  refine ⟨v', rfl, ?_, HXX.out⟩
  unfold OwnW
  rw [strVs_of, bytesOf_len]
  have h := HO.out
  rw [Nat.zero_add, List.nil_append] at h
  exact h
end Go.Proofs.YtccdnieoaejgdaaGreatDoor
