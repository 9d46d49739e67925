/-
  What the functions of chapter 1 compute, in plain words: no program in sight.
-/
import Derived.Test.YtaopcpfgmjpliaaDoorLib
namespace Go.Proofs.YtaopcpfgmjpliaaDoor

def letC (c : Int) : Bool := (decide (97 ≤ c) && decide (c ≤ 122)) || (decide (65 ≤ c) && decide (c ≤ 90))
def okC (k : Nat) (c : Int) : Bool := letC c || (k != 0 && (c == 45 || (decide (48 ≤ c) && decide (c ≤ 57))))
theorem okC_true {k : Nat} {c : Int} (h : (97 ≤ c ∧ c ≤ 122) ∨ (65 ≤ c ∧ c ≤ 90) ∨ (k ≠ 0 ∧ (c = 45 ∨ (48 ≤ c ∧ c ≤ 57)))) : okC k c = true := by
  simp [okC, letC]; omega
theorem okC_false {k : Nat} {c : Int} (h : ¬ ((97 ≤ c ∧ c ≤ 122) ∨ (65 ≤ c ∧ c ≤ 90) ∨ (k ≠ 0 ∧ (c = 45 ∨ (48 ≤ c ∧ c ≤ 57))))) : okC k c = false := by
  rw [Bool.eq_false_iff]; intro hh; apply h; simp [okC, letC] at hh; omega
/-- The first n bytes are such as a name has them. -/
def nameTo (s : ByteArray) (n : Nat) : Bool := (List.range n).all fun k => okC k ((s.data.toList.getD k 0).toNat : Int)
def nameB (s : ByteArray) : Bool := decide (1 ≤ s.size) && decide (s.size ≤ 12) && nameTo s s.size
theorem byteAt (s : ByteArray) (k : Nat) (h : k < s.size) : s.data.toList.getD k 0 = s[k] := by
  rw [List.getD_eq_getElem?_getD, List.getElem?_eq_getElem (by simpa using h)]; rfl
theorem nameTo_zero (s : ByteArray) : nameTo s 0 = true := rfl
theorem nameTo_succ (s : ByteArray) (k : Nat) (h : k < s.size) : nameTo s (k + 1) = (nameTo s k && okC k (s[k].toNat : Int)) := by
  unfold nameTo; rw [List.range_succ, List.all_append]; simp only [List.all_cons, List.all_nil, Bool.and_true]; rw [byteAt s k h]
theorem nameTo_bad (s : ByteArray) (k : Nat) (h : k < s.size) (hb : okC k (s[k].toNat : Int) = false) : nameTo s s.size = false := by
  unfold nameTo; rw [List.all_eq_false]; exact ⟨k, by simpa using h, by rw [byteAt s k h, hb]; simp⟩
theorem nameB_short (s : ByteArray) (h : s.size < 1 ∨ 12 < s.size) : nameB s = false := by
  unfold nameB; rw [Bool.and_eq_false_iff, Bool.and_eq_false_iff]; left; rw [decide_eq_false_iff_not, decide_eq_false_iff_not]; omega
theorem nameB_bad (s : ByteArray) (k : Nat) (h : k < s.size) (hb : okC k (s[k].toNat : Int) = false) : nameB s = false := by
  unfold nameB; rw [nameTo_bad s k h hb, Bool.and_false]
theorem nameB_good (s : ByteArray) (h : 1 ≤ s.size ∧ s.size ≤ 12) (hb : nameTo s s.size = true) : nameB s = true := by
  unfold nameB; simp [h, hb]

/-- What a sort of a kind may print. -/
def printable (s : ByteArray) : Bool := s.data.toList.all fun b => decide (33 ≤ (b.toNat : Int)) && decide ((b.toNat : Int) ≤ 126)
def printLo (k : Int) : Int := if k = 1 then 1 else if k = 2 then 2 else 0
def printHi (k : Int) : Int := if k = 1 then 1 else if k = 2 then 4 else 0
def printsB (k : Int) (s : ByteArray) : Bool := decide (printLo k ≤ (s.size : Int)) && decide ((s.size : Int) ≤ printHi k) && printable s

/-- Some of the first n sorts bears a name; some that is no space prints a text. -/
def hasName (ss : List TS) (n : Nat) (s : ByteArray) : Bool := (ss.take n).any fun x => decide (x.name = s)
def hasText (ss : List TS) (n : Nat) (s : ByteArray) : Bool := (ss.take n).any fun x => decide (x.kind ≠ 3) && decide (x.text = s)
def textErr (ss : List TS) (n : Nat) (k : Int) (t : ByteArray) : Int := if printsB k t = false then 3 else if k ≠ 3 ∧ hasText ss n t = true then 13 else 0
/-- The error of sort n. -/
def sortErr (ss : List TS) (n : Nat) (x : TS) : Int :=
  if nameB x.name = false then 4 else if hasName ss n x.name = true then 5 else if ¬ (1 ≤ x.kind ∧ x.kind ≤ 3) then 15 else if ¬ (1 ≤ x.width ∧ x.width ≤ 100000) then 2 else textErr ss n x.kind x.text
/-- No error among the first n sorts. -/
def cleanTo (ss : List TS) (n : Nat) : Prop := ∀ k, k < n → sortErr ss k (ss.getD k TS.zero) = 0
def firstBad (ss : List TS) : Nat → Option Nat
  | 0 => none
  | n + 1 => match firstBad ss n with | some k => some k | none => if sortErr ss n (ss.getD n TS.zero) = 0 then none else some n
/-- The number of a sort, and the error, of a fount. -/
def chk (f : FT) : Int × Int :=
  if nameB f.name = false then (0, 4) else if ¬ (1 ≤ f.body ∧ f.body ≤ 144) then (0, 2) else if f.sorts.length = 0 then (0, 10) else if 120 < f.sorts.length then (0, 8)
  else match firstBad f.sorts f.sorts.length with | some k => ((k : Int), sortErr f.sorts k (f.sorts.getD k TS.zero)) | none => (0, 0)

theorem firstBad_none {ss : List TS} : ∀ {n : Nat}, cleanTo ss n → firstBad ss n = none
  | 0, _ => rfl
  | n + 1, h => by rw [firstBad, firstBad_none (fun k hk => h k (by omega))]; simp only; rw [if_pos (h n (by omega))]
theorem firstBad_some {ss : List TS} {k : Nat} : ∀ {n : Nat}, cleanTo ss k → k < n → sortErr ss k (ss.getD k TS.zero) ≠ 0 → firstBad ss n = some k
  | n + 1, hc, hk, hb => by
    rw [firstBad]
    by_cases h : k < n
    · rw [firstBad_some hc h hb]
    · obtain rfl : k = n := by omega
      rw [firstBad_none hc]; simp only; rw [if_neg hb]
theorem cleanTo_succ {ss : List TS} {n : Nat} (h : cleanTo ss n) (hb : sortErr ss n (ss.getD n TS.zero) = 0) : cleanTo ss (n + 1) := by
  intro k hk
  by_cases h' : k < n
  · exact h k h'
  · obtain rfl : k = n := by omega
    exact hb

/-- What the maps of the names, and of the texts, answer behind the first n sorts. -/
def lookN (ss : List TS) : Nat → List UInt8 → Option Int
  | 0 => fun _ => none
  | n + 1 => fun s => if s = (ss.getD n TS.zero).name.data.toList then some (n : Int) else lookN ss n s
def lookT (ss : List TS) : Nat → List UInt8 → Option Int
  | 0 => fun _ => none
  | n + 1 => if (ss.getD n TS.zero).kind = 3 then lookT ss n else fun s => if s = (ss.getD n TS.zero).text.data.toList then some (n : Int) else lookT ss n s
theorem bytes_ext {a b : ByteArray} (h : a.data.toList = b.data.toList) : a = b := by
  obtain ⟨⟨a⟩⟩ := a; obtain ⟨⟨b⟩⟩ := b; simpa using h
theorem take_getD (ss : List TS) (n : Nat) (h : n < ss.length) : ss.take (n + 1) = ss.take n ++ [ss.getD n TS.zero] := by
  rw [List.take_succ_eq_append_getElem h, List.getD_eq_getElem?_getD, List.getElem?_eq_getElem h]; rfl
theorem lookN_some (ss : List TS) (s : ByteArray) : ∀ n, n ≤ ss.length → (lookN ss n s.data.toList).isSome = hasName ss n s
  | 0, _ => rfl
  | n + 1, h => by
    have ih := lookN_some ss s n (by omega)
    unfold hasName at ih ⊢
    rw [take_getD ss n (by omega), List.any_append, ← ih]
    simp only [lookN, List.any_cons, List.any_nil, Bool.or_false]
    generalize ss.getD n TS.zero = x
    by_cases e : x.name = s
    · subst e; simp
    · rw [if_neg (fun hh => e (bytes_ext hh).symm), decide_eq_false e, Bool.or_false]
theorem lookT_some (ss : List TS) (s : ByteArray) : ∀ n, n ≤ ss.length → (lookT ss n s.data.toList).isSome = hasText ss n s
  | 0, _ => rfl
  | n + 1, h => by
    have ih := lookT_some ss s n (by omega)
    unfold hasText at ih ⊢
    rw [take_getD ss n (by omega), List.any_append, ← ih]
    simp only [lookT, List.any_cons, List.any_nil, Bool.or_false]
    generalize ss.getD n TS.zero = x
    by_cases hk : x.kind = 3
    · rw [if_pos hk]; simp [hk]
    · rw [if_neg hk]
      by_cases e : x.text = s
      · subst e; simp [hk]
      · rw [if_neg (fun hh => e (bytes_ext hh).symm), decide_eq_false e]; simp
end Go.Proofs.YtaopcpfgmjpliaaDoor
