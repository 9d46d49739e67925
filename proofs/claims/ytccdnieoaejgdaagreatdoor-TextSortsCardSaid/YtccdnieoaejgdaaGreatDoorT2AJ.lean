/-
  Walks: NeedOf; the reference's error of a list, its width and its need.
  What the functions of chapter 2 compute, in plain words: words, patterns of hyphens, levels, marked words. No program in sight.
-/
import Derived.Test.YtccdnieoaejgdaaGreatDoorT2AI
import Derived.Test.YtccdnieoaejgdaaGreatDoorT2AF
import Derived.Deep.RegionHeld3
import Derived.StillTailTactics
import Derived.Test.YtccdnieoaejgdaaGreatDoorT2AA
set_option linter.unusedVariables false
set_option linter.unusedSimpArgs false
set_option linter.unusedSectionVars false
namespace Go.Proofs.YtccdnieoaejgdaaGreatDoor
open Go.RowKit

end Go.Proofs.YtccdnieoaejgdaaGreatDoor
namespace Go.Proofs.YtccdnieoaejgdaaGreatDoor

def wordB (s : ByteArray) : Bool := decide (1 ≤ s.size) && decide (s.size ≤ 30) && printable s
def smC (c : Int) : Bool := decide (97 ≤ c) && decide (c ≤ 122)
def dgC (c : Int) : Bool := decide (48 ≤ c) && decide (c ≤ 57)
theorem smC_iff {c : Int} : smC c = true ↔ 97 ≤ c ∧ c ≤ 122 := by unfold smC; rw [Bool.and_eq_true, decide_eq_true_eq, decide_eq_true_eq]
theorem dgC_iff {c : Int} : dgC c = true ↔ 48 ≤ c ∧ c ≤ 57 := by unfold dgC; rw [Bool.and_eq_true, decide_eq_true_eq, decide_eq_true_eq]
/-- Byte k of a text, as a number. -/
def bya (l : List UInt8) (k : Nat) : Int := ((l.getD k 0).toNat : Int)
theorem bya_nonneg (l : List UInt8) (k : Nat) : 0 ≤ bya l k ∧ bya l k < 256 := by unfold bya; have := (l.getD k 0).toNat_lt; omega
theorem bya_byte (s : ByteArray) (k : Nat) (h : k < s.size) : (s[k].toNat : Int) = bya s.data.toList k := by unfold bya; rw [byteAt s k h]

/-- A pattern that is read: its letters, the levels that are closed, the level at hand, whether that was told. -/
structure PS where
  ls : List UInt8
  vs : List Int
  lv : Int
  d : Bool
def PS.step (p : PS) (b : UInt8) : Option PS :=
  if smC b.toNat = true then some ⟨p.ls ++ [b], p.vs ++ [p.lv], 0, false⟩
  else if dgC b.toNat = true ∧ p.d = false then some ⟨p.ls, p.vs, (b.toNat : Int) - 48, true⟩ else none
def patTo (l : List UInt8) : Nat → Option PS
  | 0 => some ⟨[], [], 0, false⟩
  | n + 1 => match patTo l n with
    | some p => p.step (l.getD n 0)
    | none => none
theorem patTo_none {l : List UInt8} {k : Nat} (h : patTo l k = none) : ∀ n, k ≤ n → patTo l n = none
  | 0, hn => by rw [show k = 0 by omega] at h; exact h
  | n + 1, hn => by
    rcases Nat.lt_or_ge n k with h1 | h1
    · rw [show n + 1 = k by omega]; exact h
    · rw [patTo, patTo_none h n h1]
theorem patTo_next {l : List UInt8} {k : Nat} {p : PS} (h : patTo l k = some p) : patTo l (k + 1) = p.step (l.getD k 0) := by rw [patTo, h]
/-- What patTo keeps: as many closed levels as letters; all small letters; levels from 0 to 9. -/
structure PS.Ok (p : PS) (n : Nat) : Prop where
  len : p.vs.length = p.ls.length
  le : p.ls.length ≤ n
  sm : ∀ b ∈ p.ls, smC b.toNat = true
  lv : 0 ≤ p.lv ∧ p.lv ≤ 9
  vs : ∀ v ∈ p.vs, 0 ≤ v ∧ v ≤ 9
theorem PS.Ok.step {p q : PS} {n : Nat} {b : UInt8} (h : p.Ok n) (hs : p.step b = some q) : q.Ok (n + 1) := by
  unfold PS.step at hs
  split at hs
  · rename_i h1
    cases hs
    refine ⟨by simp [h.len], by simp; have := h.le; omega, fun c hc => ?_, by simp, fun v hv => ?_⟩
    · rcases List.mem_append.1 hc with h2 | h2
      · exact h.sm c h2
      · rw [List.mem_singleton.1 h2]; exact h1
    · rcases List.mem_append.1 hv with h2 | h2
      · exact h.vs v h2
      · rw [List.mem_singleton.1 h2]; exact h.lv
  · split at hs
    · rename_i h1 h2
      cases hs
      have h3 := dgC_iff.1 h2.1
      exact ⟨h.len, by have := h.le; simp only; omega, h.sm, by simp only; omega, h.vs⟩
    · cases hs
theorem patTo_ok {l : List UInt8} : ∀ {n : Nat} {p : PS}, patTo l n = some p → p.Ok n
  | 0, p, h => by cases h; exact ⟨rfl, by simp, by simp, by simp, by simp⟩
  | n + 1, p, h => by
    rw [patTo] at h
    cases hq : patTo l n with
    | none => rw [hq] at h; cases h
    | some q => rw [hq] at h; exact (patTo_ok hq).step h
/-- A pattern: its letters, its levels (one more), whether it stands at the beginning, and at the end. -/
structure Pat where
  lt : List UInt8
  lv : List Int
  fs : Bool
  en : Bool
def Pat.zero : Pat := ⟨[], [], false, false⟩
def frontDot (l : List UInt8) : Bool := decide (l.head? = some 46)
def backDot (l : List UInt8) : Bool := decide (l.getLast? = some 46)
def cutFront (l : List UInt8) : List UInt8 := if frontDot l = true then l.drop 1 else l
def cutBack (l : List UInt8) : List UInt8 := if backDot l = true then l.dropLast else l
def patMid (l : List UInt8) : List UInt8 := cutBack (cutFront l)
def patOf (l : List UInt8) : Option Pat :=
  match patTo (patMid l) (patMid l).length with
  | some p => if 1 ≤ p.ls.length ∧ p.ls.length ≤ 16 then some ⟨p.ls, p.vs ++ [p.lv], frontDot l, backDot (cutFront l)⟩ else none
  | none => none
structure Pat.Ok (p : Pat) : Prop where
  len : p.lv.length = p.lt.length + 1
  lo : 1 ≤ p.lt.length
  hi : p.lt.length ≤ 16
  sm : ∀ b ∈ p.lt, smC b.toNat = true
  lv : ∀ v ∈ p.lv, 0 ≤ v ∧ v ≤ 9
theorem patOf_ok {l : List UInt8} {p : Pat} (h : patOf l = some p) : p.Ok := by
  unfold patOf at h
  cases hq : patTo (patMid l) (patMid l).length with
  | none => rw [hq] at h; cases h
  | some q =>
    rw [hq] at h
    simp only at h
    split at h
    · rename_i h1
      cases h
      have ho := patTo_ok hq
      refine ⟨by simp [ho.len], h1.1, h1.2, ho.sm, fun v hv => ?_⟩
      rcases List.mem_append.1 hv with h2 | h2
      · exact ho.vs v h2
      · rw [List.mem_singleton.1 h2]; exact ho.lv
    · cases h
/-- A word with small letters. -/
def lowB (b : UInt8) : UInt8 := if 65 ≤ b.toNat ∧ b.toNat ≤ 90 then b + 32 else b
def low (l : List UInt8) : List UInt8 := l.map lowB
theorem low_len (l : List UInt8) : (low l).length = l.length := by simp [low]
/-- A pattern fits a word at a place. -/
def hit (p : Pat) (w : List UInt8) (i : Nat) : Bool :=
  decide (i + p.lt.length ≤ w.length) && (!p.fs || decide (i = 0)) && (!p.en || decide (i + p.lt.length = w.length)) && decide ((w.drop i).take p.lt.length = p.lt)
/-- The level of place i by the fits at the first n places. -/
def lvAt (p : Pat) (w : List UInt8) : Nat → Nat → Int
  | 0, _ => 0
  | n + 1, i => if hit p w n = true ∧ n ≤ i ∧ i ≤ n + p.lt.length then max (lvAt p w n i) (p.lv.getD (i - n) 0) else lvAt p w n i
def lvIn (p : Pat) (w : List UInt8) (i : Nat) : Int := lvAt p w (w.length + 1) i
/-- .. by the first k patterns. -/
def lvBy (ps : List Pat) (w : List UInt8) : Nat → Nat → Int
  | 0, _ => 0
  | k + 1, i => max (lvBy ps w k i) (lvIn (ps.getD k Pat.zero) w i)
theorem hit_big {p : Pat} {w : List UInt8} {n : Nat} (h : w.length < n + p.lt.length) : hit p w n = false := by
  unfold hit; rw [decide_eq_false (by omega)]; rfl
theorem lvAt_big {p : Pat} {w : List UInt8} {m : Nat} (h : w.length < m + p.lt.length) (i : Nat) : ∀ n, m ≤ n → lvAt p w n i = lvAt p w m i
  | 0, hn => by rw [show m = 0 by omega]
  | n + 1, hn => by
    rcases Nat.lt_or_ge n m with h1 | h1
    · rw [show n + 1 = m by omega]
    · rw [lvAt, if_neg (by rw [hit_big (by omega)]; simp), lvAt_big h i n h1]
theorem lv_bd {p : Pat} (hp : p.Ok) (k : Nat) : 0 ≤ p.lv.getD k 0 ∧ p.lv.getD k 0 ≤ 9 := by
  rw [List.getD_eq_getElem?_getD]
  cases h : p.lv[k]? with
  | none => simp
  | some v => exact hp.lv v (List.mem_of_getElem? h)
/-- A word with marks: the word, and the places of the marks, of the first n bytes; none: a mark stands wrongly. -/
def mkTo (l : List UInt8) (m : UInt8) : Nat → Option (List UInt8 × List Int)
  | 0 => some ([], [])
  | n + 1 => match mkTo l m n with
    | none => none
    | some (w, ps) =>
      if l.getD n 0 = m then (if n = 0 ∨ n + 1 = l.length ∨ l.getD (n - 1) 0 = m then none else some (w, ps ++ [(w.length : Int)]))
      else some (w ++ [l.getD n 0], ps)
/-- A word with marks, all in all; a mark at an end, or two together: none. -/
def mkAll (l : List UInt8) (m : UInt8) : Option (List UInt8 × List Int) := if l = [] then none else mkTo l m l.length
def printL (l : List UInt8) : Bool := l.all fun b => decide (33 ≤ (b.toNat : Int)) && decide ((b.toNat : Int) ≤ 126)
def smallL (l : List UInt8) : Bool := l.all fun b => smC b.toNat
/-- An exception (letters) or a bar. -/
def mkOk (letters : Bool) (x : List UInt8 × List Int) : Bool :=
  decide (1 ≤ x.1.length) && decide (x.1.length ≤ 30) && (if letters = true then smallL x.1 else printL x.1 && decide (0 < x.2.length))
def mkOf (letters : Bool) (m : UInt8) (l : List UInt8) : Option (List UInt8 × List Int) :=
  match mkAll l m with
  | some x => if mkOk letters x = true then some x else none
  | none => none
/-- What the first n of a list's texts are, as marked words. -/
def mkLook (letters : Bool) (m : UInt8) (l : List ByteArray) : Nat → List UInt8 → Option (List Int)
  | 0, _ => none
  | n + 1, w => match mkOf letters m (l.getD n ByteArray.empty).data.toList with
    | some x => if w = x.1 then some x.2 else mkLook letters m l n w
    | none => mkLook letters m l n w
/-- The error of text n. -/
def mkErr (letters : Bool) (m : UInt8) (l : List ByteArray) (n : Nat) : Int :=
  match mkOf letters m (l.getD n ByteArray.empty).data.toList with
  | none => 3
  | some x => if (mkLook letters m l n x.1).isSome = true then 5 else 0
def mkBad (letters : Bool) (m : UInt8) (l : List ByteArray) : Nat → Option Nat
  | 0 => none
  | n + 1 => match mkBad letters m l n with
    | some k => some k
    | none => if mkErr letters m l n = 0 then none else some n
def mkChk (letters : Bool) (m : UInt8) (l : List ByteArray) : Int × Int :=
  if 40 < l.length then (0, 8) else match mkBad letters m l l.length with
    | some k => ((k : Int), mkErr letters m l k)
    | none => (0, 0)
def patBad (l : List ByteArray) : Nat → Option Nat
  | 0 => none
  | n + 1 => match patBad l n with
    | some k => some k
    | none => match patOf (l.getD n ByteArray.empty).data.toList with
      | some _ => none
      | none => some n
/-- Rules. -/
structure RU where
  pats : List ByteArray
  excs : List ByteArray
  bars : List ByteArray
  left : Int
  right : Int
def ruleE (r : RU) : Int × Int :=
  if 60 < r.pats.length then (0, 8) else match patBad r.pats r.pats.length with
    | some k => ((k : Int), 3)
    | none => if (mkChk true 45 r.excs).2 ≠ 0 then mkChk true 45 r.excs
      else if (mkChk false 124 r.bars).2 ≠ 0 then mkChk false 124 r.bars
      else if ¬ (1 ≤ r.left ∧ r.left ≤ 10) ∨ ¬ (1 ≤ r.right ∧ r.right ≤ 10) then (0, 2) else (0, 0)
/-- The patterns of right rules. -/
def patsOf (r : RU) : List Pat := r.pats.map fun s => (patOf s.data.toList).getD Pat.zero
def excLook (r : RU) (w : List UInt8) : Option (List Int) := mkLook true 45 r.excs r.excs.length w
def barLook (r : RU) (w : List UInt8) : List Int := (mkLook false 124 r.bars r.bars.length w).getD []
/-- The levels of a word. -/
def lvOf (r : RU) (w : List UInt8) (i : Nat) : Int := lvBy (patsOf r) (low w) r.pats.length i
/-- The places with odd levels, of the first n. -/
def oddTo (f : Nat → Int) : Nat → List Int
  | 0 => []
  | n + 1 => if (f n).tmod 2 = 1 then oddTo f n ++ [(n : Int)] else oddTo f n
def hyOk (r : RU) (n : Nat) (p : Int) : Bool := decide (r.left ≤ p) && decide (r.right ≤ (n : Int) - p)
end Go.Proofs.YtccdnieoaejgdaaGreatDoor
