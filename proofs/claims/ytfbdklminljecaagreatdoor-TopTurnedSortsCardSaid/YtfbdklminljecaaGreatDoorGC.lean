/-
  Chapter 5, in plain words: galleys and rules in memory, and what the functions of pages compute.
  Plain law: what a right galley is; cores of pages; bounds of what pages use and cost.
  Walks: chapter 5: within, isHeight; whether rules are right.
  Plain law: roman folios: what is written is read back; the first number with a folio.
  Plain law: reading folios: the number whose folio a text is, or the error.
-/
import Derived.Test.YtfbdklminljecaaGreatDoorGB
import Derived.Test.YtfbdklminljecaaGreatDoorGA
import Derived.Lib.ItoaNum
import Derived.Lib.AtoiAll
namespace Go.Proofs.YtfbdklminljecaaGreatDoor
open Go.RowKit

/-- An item of a galley. -/
structure IT where
  kind : Int
  height : Int
  note : Int
  line : Int
  many : Int
def IT.zero : IT := ⟨0, 0, 0, 0, 0⟩
def IT.val (x : IT) : Value := .agg #[.int .i64 x.kind, .int .i64 x.height, .int .i64 x.note, .int .i64 x.line, .int .i64 x.many]
def IT.ok (x : IT) : Prop := I64 x.kind ∧ I64 x.height ∧ I64 x.note ∧ I64 x.line ∧ I64 x.many
/-- A slice of items reads as xs. -/
def RP (w : World) (A : Option Addr) (n : Nat) (xs : List IT) : Prop :=
  xs.length = n ∧ n ≤ 9223372036854775807 ∧ (0 < n → ∃ b off, A = some ⟨b, off, none⟩ ∧ b < w.heap.size ∧ ∀ k, k < n →
    w.cell? ⟨b, off + k * 5, none⟩ = some (.int .i64 (xs.getD k IT.zero).kind) ∧ w.cell? ⟨b, off + k * 5 + 1, none⟩ = some (.int .i64 (xs.getD k IT.zero).height) ∧
    w.cell? ⟨b, off + k * 5 + 2, none⟩ = some (.int .i64 (xs.getD k IT.zero).note) ∧ w.cell? ⟨b, off + k * 5 + 3, none⟩ = some (.int .i64 (xs.getD k IT.zero).line) ∧
    w.cell? ⟨b, off + k * 5 + 4, none⟩ = some (.int .i64 (xs.getD k IT.zero).many))
theorem RP.ext {w w' : World} {A : Option Addr} {n : Nat} {zs : List IT} (h : RP w A n zs) (hx : Ext w w') : RP w' A n zs :=
  ⟨h.1, h.2.1, fun hn => let ⟨b, off, ha, hb, hc⟩ := h.2.2 hn; ⟨b, off, ha, Nat.lt_of_lt_of_le hb hx.size, fun k hk => by
    rw [hx.cell (p := ⟨b, _, none⟩) hb, hx.cell (p := ⟨b, _, none⟩) hb, hx.cell (p := ⟨b, _, none⟩) hb, hx.cell (p := ⟨b, _, none⟩) hb, hx.cell (p := ⟨b, _, none⟩) hb]; exact hc k hk⟩⟩
/-- A galley. -/
structure GT where
  items : List IT
  notes : List Int
/-- Where a galley lies. -/
structure GA where
  A : Option Addr
  c : Nat
  B : Option Addr
  d : Nat
def GT.val (g : GT) (a : GA) : Value := .agg #[.slice a.A g.items.length a.c, .slice a.B g.notes.length a.d]
structure GR (w : World) (a : GA) (g : GT) : Prop where
  rp : RP w a.A g.items.length g.items
  ri : RI w a.B g.notes.length g.notes
  sz : ∀ k, k < g.items.length → (g.items.getD k IT.zero).ok
  nz : ∀ z ∈ g.notes, I64 z
  cap : (g.items.length ≤ a.c ∧ a.c ≤ maxLen) ∧ g.notes.length ≤ a.d ∧ a.d ≤ maxLen
theorem GR.ext {w w' : World} {a : GA} {g : GT} (h : GR w a g) (hx : Ext w w') : GR w' a g := ⟨h.rp.ext hx, h.ri.ext hx, h.sz, h.nz, h.cap⟩
/-- Rules. -/
structure QT where
  height : Int
  gap : Int
  widow : Int
  orphan : Int
def QT.val (r : QT) : Value := .agg #[.int .i64 r.height, .int .i64 r.gap, .int .i64 r.widow, .int .i64 r.orphan]
def QT.ok (r : QT) : Prop := I64 r.height ∧ I64 r.gap ∧ I64 r.widow ∧ I64 r.orphan

def badH (z : Int) : Bool := !(decide (1 ≤ z) && decide (z ≤ 2000))
/-- The error of an item: n notes; line l of o before it; c notes were called. -/
def itemErr (n : Nat) (l o c : Int) (x : IT) : Int :=
  if ¬ (1 ≤ x.kind ∧ x.kind ≤ 4) then 15 else if ¬ (1 ≤ x.height ∧ x.height ≤ 2000) then 2
  else if (x.kind = 4 ∧ x.note ≠ -1) ∨ (x.kind ≠ 1 ∧ (x.line ≠ 0 ∨ x.many ≠ 0)) then 3
  else if x.kind ≠ 1 ∧ l < o then 9
  else if x.kind = 1 ∧ (x.many < 1 ∨ x.line ≠ (if l < o then l + 1 else 1) ∨ x.many ≠ (if l < o then o else x.many)) then 9
  else if x.note = -1 then 0 else if ¬ (0 ≤ x.note ∧ x.note ≤ (n : Int) - 1) then 6 else if x.note ≠ c then 28 else 0
structure GS where
  l : Int
  o : Int
  c : Int
def GS.next (s : GS) (x : IT) : GS := ⟨if x.kind = 1 then x.line else s.l, if x.kind = 1 then x.many else s.o, if x.note = -1 then s.c else s.c + 1⟩
def gsTo (xs : List IT) : Nat → GS
  | 0 => ⟨0, 0, 0⟩
  | k + 1 => (gsTo xs k).next (xs.getD k IT.zero)
def errAt (n : Nat) (xs : List IT) (k : Nat) : Int := itemErr n (gsTo xs k).l (gsTo xs k).o (gsTo xs k).c (xs.getD k IT.zero)
def cleanG (n : Nat) (xs : List IT) (k : Nat) : Prop := ∀ j, j < k → errAt n xs j = 0
def firstG (n : Nat) (xs : List IT) : Nat → Option Nat
  | 0 => none
  | k + 1 => match firstG n xs k with | some j => some j | none => if errAt n xs k = 0 then none else some k
def chkG (g : GT) : Int × Int :=
  if 200 < g.items.length ∨ 40 < g.notes.length then (0, 8) else if (idxOf badH g.notes g.notes.length).isSome = true then (0, 2)
  else match firstG g.notes.length g.items g.items.length with
    | some k => ((k : Int), errAt g.notes.length g.items k)
    | none => if (gsTo g.items g.items.length).l < (gsTo g.items g.items.length).o then (0, 25) else if (gsTo g.items g.items.length).c < (g.notes.length : Int) then (0, 14) else (0, 0)
def chkQ (r : QT) : Int := if ¬ (1 ≤ r.height ∧ r.height ≤ 2000) ∨ ¬ (0 ≤ r.gap ∧ r.gap ≤ 2000) ∨ ¬ (0 ≤ r.widow ∧ r.widow ≤ 1000000) ∨ ¬ (0 ≤ r.orphan ∧ r.orphan ≤ 1000000) then 2 else 0
def bookErr (g : GT) (r : QT) : Int := if (chkG g).2 ≠ 0 then (chkG g).2 else chkQ r
/-- The first place of a page that is no gap's; the place behind the last one. -/
def frontG (xs : List IT) (b : Nat) : Nat → Nat → Nat
  | 0, a => a
  | n + 1, a => if a < b ∧ (xs.getD a IT.zero).kind = 4 then frontG xs b n (a + 1) else a
def backG (xs : List IT) (a : Nat) : Nat → Nat
  | 0 => 0
  | b + 1 => if a < b + 1 ∧ (xs.getD b IT.zero).kind = 4 then backG xs a b else b + 1
def coreA (xs : List IT) (a b : Nat) : Nat := frontG xs b (b - a) a
def coreB (xs : List IT) (a b : Nat) : Nat := backG xs (coreA xs a b) b
/-- The notes of the items a to a + n - 1. -/
def notesR (xs : List IT) (a : Nat) : Nat → List Int
  | 0 => []
  | n + 1 => if 0 ≤ (xs.getD (a + n) IT.zero).note then notesR xs a n ++ [(xs.getD (a + n) IT.zero).note] else notesR xs a n
def hTo (xs : List IT) (a : Nat) (n : Nat) : Int := sumTo (fun k => (xs.getD (a + k) IT.zero).height) n
def nSum (ns l : List Int) (n : Nat) : Int := sumTo (fun k => ns.getD (l.getD k 0).toNat 0) n
def usesR (g : GT) (r : QT) (a b : Nat) : Int :=
  hTo g.items (coreA g.items a b) (coreB g.items a b - coreA g.items a b) + (if 0 < (notesR g.items a (b - a)).length then r.gap else 0) + nSum g.notes (notesR g.items a (b - a)) (notesR g.items a (b - a)).length
def costR (g : GT) (r : QT) (a b : Nat) : Int × Int :=
  if coreB g.items a b ≤ coreA g.items a b then (0, 3)
  else if r.height - usesR g r a b < 0 then (0, 26)
  else if (g.items.getD (coreB g.items a b - 1) IT.zero).kind = 2 ∧ b ≠ g.items.length then (0, 15)
  else ((if b = g.items.length then 0 else (r.height - usesR g r a b) * (r.height - usesR g r a b)) +
    (if 1 < (g.items.getD (coreB g.items a b - 1) IT.zero).many ∧ (g.items.getD (coreB g.items a b - 1) IT.zero).line = 1 then r.orphan else 0) +
    (if 1 < (g.items.getD (coreA g.items a b) IT.zero).many ∧ (g.items.getD (coreA g.items a b) IT.zero).line = (g.items.getD (coreA g.items a b) IT.zero).many then r.widow else 0), 0)
end Go.Proofs.YtfbdklminljecaaGreatDoor
namespace Go.Proofs.YtfbdklminljecaaGreatDoor
open Go.RowKit

/-- An item of a right galley with n notes. -/
structure RightI (n : Nat) (x : IT) : Prop where
  kind : 1 ≤ x.kind ∧ x.kind ≤ 4
  height : 1 ≤ x.height ∧ x.height ≤ 2000
  note : x.note = -1 ∨ (0 ≤ x.note ∧ x.note < n)
  gap : x.kind = 4 → x.note = -1
  other : x.kind ≠ 1 → x.line = 0 ∧ x.many = 0
theorem itemErr_zero {n : Nat} {l o c : Int} {x : IT} (h : itemErr n l o c x = 0) : RightI n x := by
  unfold itemErr at h
  by_cases h1 : ¬ (1 ≤ x.kind ∧ x.kind ≤ 4)
  · rw [if_pos h1] at h; exact absurd h (by decide)
  rw [if_neg h1] at h
  by_cases h2 : ¬ (1 ≤ x.height ∧ x.height ≤ 2000)
  · rw [if_pos h2] at h; exact absurd h (by decide)
  rw [if_neg h2] at h
  by_cases h3 : (x.kind = 4 ∧ x.note ≠ -1) ∨ (x.kind ≠ 1 ∧ (x.line ≠ 0 ∨ x.many ≠ 0))
  · rw [if_pos h3] at h; exact absurd h (by decide)
  rw [if_neg h3] at h
  by_cases h4 : x.kind ≠ 1 ∧ l < o
  · rw [if_pos h4] at h; exact absurd h (by decide)
  rw [if_neg h4] at h
  by_cases h5 : x.kind = 1 ∧ (x.many < 1 ∨ x.line ≠ (if l < o then l + 1 else 1) ∨ x.many ≠ (if l < o then o else x.many))
  · rw [if_pos h5] at h; exact absurd h (by decide)
  rw [if_neg h5] at h
  have key : x.note = -1 ∨ (0 ≤ x.note ∧ x.note < n) := by
    by_cases h6 : x.note = -1
    · exact .inl h6
    rw [if_neg h6] at h
    by_cases h7 : ¬ (0 ≤ x.note ∧ x.note ≤ (n : Int) - 1)
    · rw [if_pos h7] at h; exact absurd h (by decide)
    exact .inr (by omega)
  refine ⟨by omega, by omega, key, fun hk => ?_, fun hk => ?_⟩
  · by_cases hn : x.note = -1
    · exact hn
    · exact absurd (.inl ⟨hk, hn⟩) h3
  · by_cases hn : x.line = 0 ∧ x.many = 0
    · exact hn
    · exact absurd (.inr ⟨hk, by omega⟩) h3
theorem firstG_none {n : Nat} {xs : List IT} : ∀ {k : Nat}, cleanG n xs k → firstG n xs k = none
  | 0, _ => rfl
  | k + 1, h => by rw [firstG, firstG_none (fun j hj => h j (by omega))]; simp only; rw [if_pos (h k (by omega))]
theorem firstG_some {n : Nat} {xs : List IT} {j : Nat} : ∀ {k : Nat}, cleanG n xs j → j < k → errAt n xs j ≠ 0 → firstG n xs k = some j
  | k + 1, hc, hj, hb => by
    rw [firstG]
    by_cases h : j < k
    · rw [firstG_some hc h hb]
    · obtain rfl : j = k := by omega
      rw [firstG_none hc]; simp only; rw [if_neg hb]
theorem firstG_clean {n : Nat} {xs : List IT} : ∀ {k : Nat}, firstG n xs k = none → cleanG n xs k
  | 0, _ => fun j hj => absurd hj (by omega)
  | k + 1, h => by
    rw [firstG] at h
    cases hk : firstG n xs k with
    | some m => rw [hk] at h; cases h
    | none =>
      rw [hk] at h
      simp only at h
      by_cases hz : errAt n xs k = 0
      · intro j hj
        by_cases e : j = k
        · subst e; exact hz
        · exact firstG_clean hk j (by omega)
      · rw [if_neg hz] at h; cases h
theorem firstG_bad {n : Nat} {xs : List IT} : ∀ {k j : Nat}, firstG n xs k = some j → j < k ∧ errAt n xs j ≠ 0
  | 0, j, h => by cases h
  | k + 1, j, h => by
    rw [firstG] at h
    cases hk : firstG n xs k with
    | some m =>
      rw [hk] at h
      simp only [Option.some.injEq] at h
      subst h
      obtain ⟨h1, h2⟩ := firstG_bad hk
      exact ⟨by omega, h2⟩
    | none =>
      rw [hk] at h
      simp only at h
      by_cases hz : errAt n xs k = 0
      · rw [if_pos hz] at h; cases h
      · rw [if_neg hz] at h
        cases h
        exact ⟨by omega, hz⟩
theorem cleanG_succ {n : Nat} {xs : List IT} {k : Nat} (h : cleanG n xs k) (hb : errAt n xs k = 0) : cleanG n xs (k + 1) := by
  intro j hj
  by_cases h' : j < k
  · exact h j h'
  · obtain rfl : j = k := by omega
    exact hb
/-- A right galley. -/
structure RightG (g : GT) : Prop where
  many : g.items.length ≤ 200
  notes : g.notes.length ≤ 40
  nh : ∀ k, k < g.notes.length → 1 ≤ g.notes.getD k 0 ∧ g.notes.getD k 0 ≤ 2000
  items : ∀ k, k < g.items.length → RightI g.notes.length (g.items.getD k IT.zero)
  clean : cleanG g.notes.length g.items g.items.length
  shut : ¬ (gsTo g.items g.items.length).l < (gsTo g.items g.items.length).o
  all : ¬ (gsTo g.items g.items.length).c < (g.notes.length : Int)
theorem badH_false {z : Int} : badH z = false ↔ 1 ≤ z ∧ z ≤ 2000 := by
  unfold badH; rw [Bool.not_eq_false', Bool.and_eq_true, decide_eq_true_eq, decide_eq_true_eq]
theorem chkG_zero {g : GT} (h : (chkG g).2 = 0) : RightG g := by
  unfold chkG at h
  by_cases h1 : 200 < g.items.length ∨ 40 < g.notes.length
  · rw [if_pos h1] at h; exact absurd h (by decide)
  rw [if_neg h1] at h
  by_cases h2 : (idxOf badH g.notes g.notes.length).isSome = true
  · rw [if_pos h2] at h; exact absurd h (by decide)
  rw [if_neg h2] at h
  cases h3 : firstG g.notes.length g.items g.items.length with
  | some k =>
    rw [h3] at h
    exact absurd h (firstG_bad h3).2
  | none =>
    rw [h3] at h
    simp only at h
    have hc := firstG_clean h3
    by_cases h4 : (gsTo g.items g.items.length).l < (gsTo g.items g.items.length).o
    · rw [if_pos h4] at h; exact absurd h (by decide)
    rw [if_neg h4] at h
    by_cases h5 : (gsTo g.items g.items.length).c < (g.notes.length : Int)
    · rw [if_pos h5] at h; exact absurd h (by decide)
    refine ⟨by omega, by omega, fun k hk => badH_false.1 ?_, fun k hk => itemErr_zero (hc k hk), hc, h4, h5⟩
    rw [Bool.eq_false_iff]
    intro hb
    exact h2 ((idxOf_isSome _ _ _).2 ⟨k, hk, hb⟩)
theorem chkQ_zero {r : QT} (h : chkQ r = 0) : (1 ≤ r.height ∧ r.height ≤ 2000) ∧ (0 ≤ r.gap ∧ r.gap ≤ 2000) ∧ (0 ≤ r.widow ∧ r.widow ≤ 1000000) ∧ (0 ≤ r.orphan ∧ r.orphan ≤ 1000000) := by
  unfold chkQ at h
  split at h
  · exact absurd h (by decide)
  · omega

theorem frontG_spec (xs : List IT) (b : Nat) : ∀ n a, b - a ≤ n → a ≤ b → a ≤ frontG xs b n a ∧ frontG xs b n a ≤ b ∧ (∀ k, a ≤ k → k < frontG xs b n a → (xs.getD k IT.zero).kind = 4) ∧ (frontG xs b n a < b → (xs.getD (frontG xs b n a) IT.zero).kind ≠ 4)
  | 0, a, h1, h2 => by unfold frontG; exact ⟨Nat.le_refl _, h2, fun k h3 h4 => absurd h4 (by omega), fun h => absurd h (by omega)⟩
  | n + 1, a, h1, h2 => by
    unfold frontG
    split
    case isTrue h =>
      obtain ⟨p1, p2, p3, p4⟩ := frontG_spec xs b n (a + 1) (by omega) (by omega)
      refine ⟨by omega, p2, fun k h3 h4 => ?_, p4⟩
      by_cases e : k = a
      · subst e; exact h.2
      · exact p3 k (by omega) h4
    case isFalse h => exact ⟨Nat.le_refl _, h2, fun k h3 h4 => absurd h4 (by omega), fun h3 h4 => h ⟨h3, h4⟩⟩
theorem backG_spec (xs : List IT) (a : Nat) : ∀ b, a ≤ b → a ≤ backG xs a b ∧ backG xs a b ≤ b ∧ (∀ k, backG xs a b ≤ k → k < b → (xs.getD k IT.zero).kind = 4) ∧ (a < backG xs a b → (xs.getD (backG xs a b - 1) IT.zero).kind ≠ 4)
  | 0, h => by unfold backG; exact ⟨h, Nat.le_refl _, fun k h3 h4 => absurd h4 (by omega), fun h3 => absurd h3 (by omega)⟩
  | b + 1, h => by
    unfold backG
    split
    case isTrue hh =>
      obtain ⟨p1, p2, p3, p4⟩ := backG_spec xs a b (by omega)
      refine ⟨p1, by omega, fun k h3 h4 => ?_, p4⟩
      by_cases e : k = b
      · subst e; exact hh.2
      · exact p3 k h3 (by omega)
    case isFalse hh => exact ⟨h, Nat.le_refl _, fun k h3 h4 => absurd h4 (by omega), fun h3 h4 => hh ⟨h3, h4⟩⟩
theorem core_bd (xs : List IT) (a b : Nat) (h : a ≤ b) : a ≤ coreA xs a b ∧ coreA xs a b ≤ coreB xs a b ∧ coreB xs a b ≤ b := by
  obtain ⟨p1, p2, _, _⟩ := frontG_spec xs b (b - a) a (Nat.le_refl _) h
  obtain ⟨q1, q2, _, _⟩ := backG_spec xs (coreA xs a b) b p2
  exact ⟨p1, q1, q2⟩
theorem hTo_bd {g : GT} (hr : RightG g) (a n : Nat) (h : a + n ≤ g.items.length) : 0 ≤ hTo g.items a n ∧ hTo g.items a n ≤ n * 2000 :=
  sumTo_bd _ 2000 n fun k hk => by have := (hr.items (a + k) (by omega)).height; omega
theorem notesR_bd {g : GT} (hr : RightG g) (a : Nat) : ∀ n, a + n ≤ g.items.length → (notesR g.items a n).length ≤ n ∧ ∀ z ∈ notesR g.items a n, 0 ≤ z ∧ z < g.notes.length
  | 0, _ => ⟨Nat.le_refl _, fun z hz => by cases hz⟩
  | n + 1, h => by
    obtain ⟨p1, p2⟩ := notesR_bd hr a n (by omega)
    unfold notesR
    split
    case isTrue h0 =>
      refine ⟨by rw [List.length_append]; simp; omega, fun z hz => ?_⟩
      rcases List.mem_append.1 hz with h1 | h1
      · exact p2 z h1
      · rw [List.mem_singleton.1 h1]
        have := (hr.items (a + n) (by omega)).note
        omega
    case isFalse h0 => exact ⟨by omega, p2⟩
theorem mem_getD {l : List Int} {k : Nat} (h : k < l.length) : l.getD k 0 ∈ l := by
  rw [List.getD_eq_getElem?_getD, List.getElem?_eq_getElem h]; exact List.getElem_mem h
theorem nSum_bd {g : GT} (hr : RightG g) {l : List Int} (hl : ∀ z ∈ l, 0 ≤ z ∧ z < g.notes.length) (n : Nat) (h : n ≤ l.length) : 0 ≤ nSum g.notes l n ∧ nSum g.notes l n ≤ n * 2000 :=
  sumTo_bd _ 2000 n fun k hk => by
    have h1 := hl _ (mem_getD (show k < l.length by omega))
    have := hr.nh (l.getD k 0).toNat (by omega)
    omega
theorem usesR_bd {g : GT} (hr : RightG g) {r : QT} (hq : chkQ r = 0) (a b : Nat) (h : a ≤ b) (hb : b ≤ g.items.length) : 0 ≤ usesR g r a b ∧ usesR g r a b ≤ 900000 := by
  obtain ⟨c1, c2, c3⟩ := core_bd g.items a b h
  have h1 := hTo_bd hr (coreA g.items a b) (coreB g.items a b - coreA g.items a b) (by omega)
  obtain ⟨n1, n2⟩ := notesR_bd hr a (b - a) (by omega)
  have h2 := nSum_bd hr n2 _ (Nat.le_refl _)
  have h3 := (chkQ_zero hq).2.1
  have h4 := hr.many
  unfold usesR
  split <;> omega
end Go.Proofs.YtfbdklminljecaaGreatDoor
namespace Go.Proofs.YtfbdklminljecaaGreatDoor
open Go.RowKit

theorem pWithin_any (n lo hi : Int) (w : World) :
    Calls Tryz.prog 37 #[.int .i64 n, .int .i64 lo, .int .i64 hi] w (Same (.bool (decide (lo ≤ n) && decide (n ≤ hi))) w) := by
  go_enter Tryz.func37, Tryz.ntmps37
  go_wp2 <;> go_ret <;> refine ⟨?_, rfl⟩ <;> simp_all
  omega
theorem pWithin_yes (n lo hi : Int) (w : World) (h : lo ≤ n ∧ n ≤ hi) : Calls Tryz.prog 37 #[.int .i64 n, .int .i64 lo, .int .i64 hi] w (Same (.bool true) w) :=
  (pWithin_any n lo hi w).mono fun _ _ ⟨he, hw⟩ => ⟨by rw [he]; simp [h], hw⟩
theorem pWithin_no (n lo hi : Int) (w : World) (h : ¬ (lo ≤ n ∧ n ≤ hi)) : Calls Tryz.prog 37 #[.int .i64 n, .int .i64 lo, .int .i64 hi] w (Same (.bool false) w) :=
  (pWithin_any n lo hi w).mono fun _ _ ⟨he, hw⟩ => ⟨by rw [he]; congr 2; rw [Bool.and_eq_false_iff, decide_eq_false_iff_not, decide_eq_false_iff_not]; omega, hw⟩
theorem isHeight_yes (n : Int) (w : World) (h : 1 ≤ n ∧ n ≤ 2000) : Calls Tryz.prog 68 #[.int .i64 n] w (Same (.bool true) w) := by
  go_enter Tryz.func68, Tryz.ntmps68
  go_wp2_with (first | (go_at_call 37; refine Calls.mono (pWithin_yes _ _ _ _ ?_) ?_; (omega); rintro e w1 ⟨rfl, rfl⟩))
  go_ret
  exact ⟨rfl, rfl⟩
theorem isHeight_no (n : Int) (w : World) (h : ¬ (1 ≤ n ∧ n ≤ 2000)) : Calls Tryz.prog 68 #[.int .i64 n] w (Same (.bool false) w) := by
  go_enter Tryz.func68, Tryz.ntmps68
  go_wp2_with (first | (go_at_call 37; refine Calls.mono (pWithin_no _ _ _ _ ?_) ?_; (omega); rintro e w1 ⟨rfl, rfl⟩))
  go_ret
  exact ⟨rfl, rfl⟩
set_option maxHeartbeats 2000000 in
theorem pRules_any (r : QT) (w : World) : Calls Tryz.prog 50 #[r.val] w (Ret (.int .i64 (chkQ r)) w) := by
  obtain ⟨h, g, wi, o⟩ := r
  have HE : Hid (chkQ ⟨h, g, wi, o⟩ = if ¬ (1 ≤ h ∧ h ≤ 2000) ∨ ¬ (0 ≤ g ∧ g ≤ 2000) ∨ ¬ (0 ≤ wi ∧ wi ≤ 1000000) ∨ ¬ (0 ≤ o ∧ o ≤ 1000000) then 2 else 0) := Lib.hid rfl
  generalize chkQ ⟨h, g, wi, o⟩ = z at *
  unfold QT.val
  by_cases c1 : 1 ≤ h ∧ h ≤ 2000
  case neg =>
    go_enter Tryz.func50, Tryz.ntmps50
    go_wp2_with (first | (go_at_call 68; refine Calls.mono (isHeight_yes _ _ ?_) ?_; (omega); rintro e w1 ⟨rfl, rfl⟩) | (go_at_call 68; refine Calls.mono (isHeight_no _ _ ?_) ?_; (omega); rintro e w1 ⟨rfl, rfl⟩) | (go_at_call 37; refine Calls.mono (pWithin_yes _ _ _ _ ?_) ?_; (omega); rintro e w1 ⟨rfl, rfl⟩) | (go_at_call 37; refine Calls.mono (pWithin_no _ _ _ _ ?_) ?_; (omega); rintro e w1 ⟨rfl, rfl⟩))
    go_ret
    exact Ret.mk' (by rw [HE.out, if_pos (.inl c1)]; rfl) (by repeat (first | exact Ext.refl _ | assumption | refine Ext.alloc ?_ _ | refine Ext.drew ?_ | refine Ext.drewN ?_ _ | (refine Ext.setCell ?_ (by simp <;> omega) _) | refine Ext.trans ?_ (by assumption)))
  case pos =>
  by_cases c2 : 0 ≤ g ∧ g ≤ 2000
  case neg =>
    go_enter Tryz.func50, Tryz.ntmps50
    go_wp2_with (first | (go_at_call 68; refine Calls.mono (isHeight_yes _ _ ?_) ?_; (omega); rintro e w1 ⟨rfl, rfl⟩) | (go_at_call 68; refine Calls.mono (isHeight_no _ _ ?_) ?_; (omega); rintro e w1 ⟨rfl, rfl⟩) | (go_at_call 37; refine Calls.mono (pWithin_yes _ _ _ _ ?_) ?_; (omega); rintro e w1 ⟨rfl, rfl⟩) | (go_at_call 37; refine Calls.mono (pWithin_no _ _ _ _ ?_) ?_; (omega); rintro e w1 ⟨rfl, rfl⟩))
    go_ret
    exact Ret.mk' (by rw [HE.out, if_pos (.inr (.inl c2))]; rfl) (by repeat (first | exact Ext.refl _ | assumption | refine Ext.alloc ?_ _ | refine Ext.drew ?_ | refine Ext.drewN ?_ _ | (refine Ext.setCell ?_ (by simp <;> omega) _) | refine Ext.trans ?_ (by assumption)))
  case pos =>
  by_cases c3 : 0 ≤ wi ∧ wi ≤ 1000000
  case neg =>
    go_enter Tryz.func50, Tryz.ntmps50
    go_wp2_with (first | (go_at_call 68; refine Calls.mono (isHeight_yes _ _ ?_) ?_; (omega); rintro e w1 ⟨rfl, rfl⟩) | (go_at_call 68; refine Calls.mono (isHeight_no _ _ ?_) ?_; (omega); rintro e w1 ⟨rfl, rfl⟩) | (go_at_call 37; refine Calls.mono (pWithin_yes _ _ _ _ ?_) ?_; (omega); rintro e w1 ⟨rfl, rfl⟩) | (go_at_call 37; refine Calls.mono (pWithin_no _ _ _ _ ?_) ?_; (omega); rintro e w1 ⟨rfl, rfl⟩))
    go_ret
    exact Ret.mk' (by rw [HE.out, if_pos (.inr (.inr (.inl c3)))]; rfl) (by repeat (first | exact Ext.refl _ | assumption | refine Ext.alloc ?_ _ | refine Ext.drew ?_ | refine Ext.drewN ?_ _ | (refine Ext.setCell ?_ (by simp <;> omega) _) | refine Ext.trans ?_ (by assumption)))
  case pos =>
  by_cases c4 : 0 ≤ o ∧ o ≤ 1000000
  case neg =>
    go_enter Tryz.func50, Tryz.ntmps50
    go_wp2_with (first | (go_at_call 68; refine Calls.mono (isHeight_yes _ _ ?_) ?_; (omega); rintro e w1 ⟨rfl, rfl⟩) | (go_at_call 68; refine Calls.mono (isHeight_no _ _ ?_) ?_; (omega); rintro e w1 ⟨rfl, rfl⟩) | (go_at_call 37; refine Calls.mono (pWithin_yes _ _ _ _ ?_) ?_; (omega); rintro e w1 ⟨rfl, rfl⟩) | (go_at_call 37; refine Calls.mono (pWithin_no _ _ _ _ ?_) ?_; (omega); rintro e w1 ⟨rfl, rfl⟩))
    go_ret
    exact Ret.mk' (by rw [HE.out, if_pos (.inr (.inr (.inr c4)))]; rfl) (by repeat (first | exact Ext.refl _ | assumption | refine Ext.alloc ?_ _ | refine Ext.drew ?_ | refine Ext.drewN ?_ _ | (refine Ext.setCell ?_ (by simp <;> omega) _) | refine Ext.trans ?_ (by assumption)))
  case pos =>
    go_enter Tryz.func50, Tryz.ntmps50
    go_wp2_with (first | (go_at_call 68; refine Calls.mono (isHeight_yes _ _ ?_) ?_; (omega); rintro e w1 ⟨rfl, rfl⟩) | (go_at_call 68; refine Calls.mono (isHeight_no _ _ ?_) ?_; (omega); rintro e w1 ⟨rfl, rfl⟩) | (go_at_call 37; refine Calls.mono (pWithin_yes _ _ _ _ ?_) ?_; (omega); rintro e w1 ⟨rfl, rfl⟩) | (go_at_call 37; refine Calls.mono (pWithin_no _ _ _ _ ?_) ?_; (omega); rintro e w1 ⟨rfl, rfl⟩))
    go_ret
    exact Ret.mk' (by rw [HE.out, if_neg (by omega)]; rfl) (by repeat (first | exact Ext.refl _ | assumption | refine Ext.alloc ?_ _ | refine Ext.drew ?_ | refine Ext.drewN ?_ _ | (refine Ext.setCell ?_ (by simp <;> omega) _) | refine Ext.trans ?_ (by assumption)))
end Go.Proofs.YtfbdklminljecaaGreatDoor
namespace Go.Proofs.YtfbdklminljecaaGreatDoor
open Go.RowKit

abbrev Figs := List (Nat × List UInt8)
/-- The roman figures, the greatest one first. -/
def figs : Figs := [(1000, [109]), (900, [99, 109]), (500, [100]), (400, [99, 100]), (100, [99]), (90, [120, 99]), (50, [108]), (40, [120, 108]), (10, [120]), (9, [105, 120]), (5, [118]), (4, [105, 118]), (1, [105])]
/-- A text so many times. -/
def repL (t : List UInt8) : Nat → List UInt8
  | 0 => []
  | k + 1 => repL t k ++ t
/-- The roman folio of a number. -/
def romL : Figs → Nat → List UInt8
  | [], _ => []
  | (v, t) :: r, n => repL t (n / v) ++ romL r (n % v)
/-- One figure, as often as it stands there, is taken off the front. -/
def takeF (v : Nat) (t : List UInt8) : Nat → Nat → List UInt8 → Nat × List UInt8
  | 0, n, l => (n, l)
  | f + 1, n, l => if t.isPrefixOf l = true ∧ n ≤ 3999 then takeF v t f (n + v) (l.drop t.length) else (n, l)
def parL : Figs → Nat → List UInt8 → Nat × List UInt8
  | [], n, l => (n, l)
  | (v, t) :: r, n, l => parL r (takeF v t l.length n l).1 (takeF v t l.length n l).2
def romOk (k : Nat) : Bool := (parL figs 0 (romL figs k) == (k, [])) && Nat.ble (romL figs k).length 20 && (romL figs k).all (fun c => Nat.ble 97 c.toNat) && !(romL figs k).isEmpty
set_option maxRecDepth 100000 in
theorem rom_all : (List.range' 1 3999).all romOk = true := by decide +kernel
theorem rom_ok {k : Nat} (h : 1 ≤ k) (h' : k ≤ 3999) : romOk k = true := List.all_eq_true.1 rom_all k (by rw [List.mem_range'_1]; omega)
theorem rom_back {k : Nat} (h : 1 ≤ k) (h' : k ≤ 3999) : parL figs 0 (romL figs k) = (k, []) := by
  have := rom_ok h h'
  unfold romOk at this
  simp only [Bool.and_eq_true, beq_iff_eq] at this
  exact this.1.1.1
theorem rom_len {k : Nat} (h : 1 ≤ k) (h' : k ≤ 3999) : (romL figs k).length ≤ 20 := by
  have := rom_ok h h'
  unfold romOk at this
  simp only [Bool.and_eq_true] at this
  exact Nat.le_of_ble_eq_true this.1.1.2
theorem rom_inj {k m : Nat} (h : 1 ≤ k) (h' : k ≤ 3999) (h2 : 1 ≤ m) (h3 : m ≤ 3999) (e : romL figs k = romL figs m) : k = m := by
  have a := rom_back h h'
  rw [e, rom_back h2 h3] at a
  exact (Prod.mk.inj a).1.symm
theorem dec_small : ∀ (l : List UInt8), (∃ c ∈ l, 97 ≤ c.toNat) → ∀ acc, ∀ u, Lib.parseUint10 acc l ≠ .ok u
  | [], ⟨c, hc, _⟩, _, _ => by cases hc
  | a :: l, ⟨c, hc, h97⟩, acc, u => by
    rw [Lib.parseUint10]
    rcases List.mem_cons.1 hc with rfl | h
    · rw [if_neg (by omega)]; intro h; cases h
    · split
      · split
        · intro h; cases h
        · split
          · intro h; cases h
          · exact dec_small l ⟨c, h, h97⟩ _ _
      · intro h; cases h
/-- A roman folio is no numeral. -/
theorem rom_atoi {k : Nat} (h : 1 ≤ k) (h' : k ≤ 3999) (v : Int) : Lib.atoiAll (romL figs k) ≠ .ok v := by
  have := rom_ok h h'
  unfold romOk at this
  simp only [Bool.and_eq_true, List.all_eq_true] at this
  obtain ⟨⟨⟨_, _⟩, h97⟩, hne⟩ := this
  generalize romL figs k = l at *
  cases l with
  | nil => simp at hne
  | cons c r =>
    have hc : 97 ≤ c.toNat := Nat.le_of_ble_eq_true (h97 c (List.mem_cons_self ..))
    have h0 : ∀ u, Lib.parseMag (c :: r) ≠ .ok u := fun u => by
      unfold Lib.parseMag
      rw [if_neg (by simp)]
      exact dec_small _ ⟨c, List.mem_cons_self .., hc⟩ _ _
    intro hv
    rw [Lib.atoiAll] at hv
    simp only [show ¬ (c.toNat = 43 ∨ c.toNat = 45) by omega, if_false] at hv
    cases hp : Lib.parseMag (c :: r) with
    | «syntax» => rw [hp] at hv; cases hv
    | range => rw [hp] at hv; cases hv
    | ok u => exact h0 u hp
end Go.Proofs.YtfbdklminljecaaGreatDoor
namespace Go.Proofs.YtfbdklminljecaaGreatDoor
open Go.RowKit

/-- One figure is taken off the front as often as it can be. -/
def tkF (v : Nat) (t : List UInt8) (n : Nat) (l : List UInt8) : Nat × List UInt8 := takeF v t l.length n l
theorem takeF_fuel (v : Nat) (t : List UInt8) (ht : 1 ≤ t.length) : ∀ (f g n : Nat) (l : List UInt8), l.length ≤ f → l.length ≤ g → takeF v t f n l = takeF v t g n l
  | 0, 0, _, _, _, _ => rfl
  | 0, g + 1, n, l, hf, _ => by
    obtain rfl := List.eq_nil_of_length_eq_zero (show l.length = 0 by omega)
    cases t with
    | nil => simp at ht
    | cons c r => simp [takeF]
  | f + 1, 0, n, l, _, hg => by
    obtain rfl := List.eq_nil_of_length_eq_zero (show l.length = 0 by omega)
    cases t with
    | nil => simp at ht
    | cons c r => simp [takeF]
  | f + 1, g + 1, n, l, hf, hg => by
    rw [takeF, takeF]
    split
    · exact takeF_fuel v t ht f g _ _ (by rw [List.length_drop]; omega) (by rw [List.length_drop]; omega)
    · rfl
theorem tkF_yes {v n : Nat} {t l : List UInt8} (ht : 1 ≤ t.length) (hp : t.isPrefixOf l = true) (hn : n ≤ 3999) : tkF v t n l = tkF v t (n + v) (l.drop t.length) := by
  unfold tkF
  rw [takeF_fuel v t ht l.length (l.length + 1) n l (Nat.le_refl _) (Nat.le_succ _), takeF, if_pos ⟨hp, hn⟩]
  exact takeF_fuel v t ht _ _ _ _ (by rw [List.length_drop]; omega) (Nat.le_refl _)
theorem tkF_no {v n : Nat} {t l : List UInt8} (ht : 1 ≤ t.length) (hp : ¬ (t.isPrefixOf l = true ∧ n ≤ 3999)) : tkF v t n l = (n, l) := by
  unfold tkF
  rw [takeF_fuel v t ht l.length (l.length + 1) n l (Nat.le_refl _) (Nat.le_succ _), takeF, if_neg hp]
/-- What is read from the k-th figure on. -/
def parT (k n : Nat) (l : List UInt8) : Nat × List UInt8 := parL (figs.drop k) n l
theorem parT_zero (l : List UInt8) : parT 0 0 l = parL figs 0 l := rfl
theorem parT_end (n : Nat) (l : List UInt8) : parT 13 n l = (n, l) := rfl
theorem parT_next (k : Nat) (hk : k < 13) (n : Nat) (l : List UInt8) : parT k n l = parT (k + 1) (tkF (figs.getD k (0, [])).1 (figs.getD k (0, [])).2 n l).1 (tkF (figs.getD k (0, [])).1 (figs.getD k (0, [])).2 n l).2 := by
  match k, hk with
  | 0, _ | 1, _ | 2, _ | 3, _ | 4, _ | 5, _ | 6, _ | 7, _ | 8, _ | 9, _ | 10, _ | 11, _ | 12, _ => rfl

theorem dc_lt {u : Nat} (h : u < 10) : Lib.decDigits u = [UInt8.ofNat (48 + u)] := by unfold Lib.decDigits; rw [dif_pos h]
theorem dc_ge {u : Nat} (h : 10 ≤ u) : Lib.decDigits u = Lib.decDigits (u / 10) ++ [UInt8.ofNat (48 + u % 10)] := by
  conv => lhs; unfold Lib.decDigits
  rw [dif_neg (by omega)]
/-- Up to four digits. -/
def dec4 (u : Nat) : List UInt8 :=
  if u < 10 then [UInt8.ofNat (48 + u)] else if u < 100 then [UInt8.ofNat (48 + u / 10), UInt8.ofNat (48 + u % 10)]
  else if u < 1000 then [UInt8.ofNat (48 + u / 10 / 10), UInt8.ofNat (48 + u / 10 % 10), UInt8.ofNat (48 + u % 10)]
  else [UInt8.ofNat (48 + u / 10 / 10 / 10), UInt8.ofNat (48 + u / 10 / 10 % 10), UInt8.ofNat (48 + u / 10 % 10), UInt8.ofNat (48 + u % 10)]
theorem dec4_eq {u : Nat} (h : u < 10000) : Lib.decDigits u = dec4 u := by
  unfold dec4
  split
  · rw [dc_lt (by assumption)]
  · split
    · rw [dc_ge (by omega), dc_lt (by omega)]; rfl
    · split
      · rw [dc_ge (by omega), dc_ge (by omega), dc_lt (by omega)]; rfl
      · rw [dc_ge (by omega), dc_ge (by omega), dc_ge (by omega), dc_lt (by omega)]; rfl
def atoiIs (l : List UInt8) (v : Int) : Bool := match Lib.atoiAll l with | .ok w => decide (w = v) | _ => false
set_option maxRecDepth 100000 in
theorem dec_all : (List.range' 1 3999).all (fun u => atoiIs (dec4 u) u) = true := by decide +kernel
theorem itoa_of_nat (u : Nat) : Lib.itoa (u : Int) = Lib.decDigits u := by unfold Lib.itoa; rw [if_neg (by omega), Int.toNat_natCast]
theorem atoi_itoa {k : Nat} (h : 1 ≤ k) (h' : k ≤ 3999) : Lib.atoiAll (Lib.itoa (k : Int)) = .ok (k : Int) := by
  have := List.all_eq_true.1 dec_all k (by rw [List.mem_range'_1]; omega)
  rw [itoa_of_nat, dec4_eq (by omega)]
  unfold atoiIs at this
  split at this
  · rename_i v hv
    rw [hv, of_decide_eq_true this]
  · cases this

/-- The folio of a number, or the error. -/
def folL (n : Int) (rom : Bool) : List UInt8 × Int := if ¬ (1 ≤ n ∧ n ≤ 3999) then ([], 2) else if rom = true then (romL figs n.toNat, 0) else (Lib.itoa n, 0)
/-- The number with a folio, and whether it is roman, or the error. -/
def parR (l : List UInt8) : Int × Bool × Int :=
  match Lib.atoiAll l with
  | .ok v => if folL v false = (l, 0) then (v, false, 0) else (0, false, 7)
  | _ => if folL ((parL figs 0 l).1 : Int) true = (l, 0) then (((parL figs 0 l).1 : Int), true, 0) else (0, false, 7)
theorem parR_dec {k : Nat} {l : List UInt8} (h : 1 ≤ k) (h' : k ≤ 3999) (e : Lib.itoa (k : Int) = l) : parR l = ((k : Int), false, 0) := by
  subst e
  unfold parR
  rw [atoi_itoa h h']
  simp only
  rw [if_pos]
  unfold folL
  rw [if_neg (by omega), if_neg (by decide)]
theorem parR_rom {k : Nat} {l : List UInt8} (h : 1 ≤ k) (h' : k ≤ 3999) (e : romL figs k = l) : parR l = ((k : Int), true, 0) := by
  subst e
  have h9 : folL ((parL figs 0 (romL figs k)).1 : Int) true = (romL figs k, 0) := by
    rw [rom_back h h']
    unfold folL
    rw [if_neg (by omega), if_pos rfl]; simp
  unfold parR
  cases ha : Lib.atoiAll (romL figs k) with
  | ok v => exact absurd ha (rom_atoi h h' v)
  | «syntax» => simp only; rw [if_pos h9, rom_back h h']
  | range => simp only; rw [if_pos h9, rom_back h h']
theorem folL_ok {n : Int} {rom : Bool} {l : List UInt8} (e : folL n rom = (l, 0)) : ∃ k : Nat, n = k ∧ 1 ≤ k ∧ k ≤ 3999 ∧ (if rom = true then romL figs k else Lib.itoa (k : Int)) = l := by
  unfold folL at e
  split at e
  · cases e
  · rename_i hn
    simp only [Decidable.not_not] at hn
    obtain ⟨k, rfl⟩ : ∃ k : Nat, n = k := ⟨n.toNat, by omega⟩
    refine ⟨k, rfl, by omega, by omega, ?_⟩
    split at e
    · rename_i hr
      rw [if_pos hr]; rw [Int.toNat_natCast] at e; exact (Prod.mk.inj e).1
    · rename_i hr
      rw [if_neg hr]; exact (Prod.mk.inj e).1
theorem parR_none {l : List UInt8} (h : ∀ m : Nat, 1 ≤ m → m ≤ 3999 → Lib.itoa (m : Int) ≠ l ∧ ¬ (l.length ≤ 20 ∧ romL figs m = l)) : parR l = (0, false, 7) := by
  have h1 : ∀ v, folL v false ≠ (l, 0) := fun v e => by
    obtain ⟨k, rfl, h1, h2, h3⟩ := folL_ok e
    exact (h k h1 h2).1 (by simpa using h3)
  have h2 : ∀ v, folL v true ≠ (l, 0) := fun v e => by
    obtain ⟨k, rfl, h1, h2, h3⟩ := folL_ok e
    rw [if_pos rfl] at h3
    exact (h k h1 h2).2 ⟨by rw [← h3]; exact rom_len h1 h2, h3⟩
  unfold parR
  split
  · rw [if_neg (h1 _)]
  · rw [if_neg (h2 _)]
theorem parR_back {n : Int} (h : 1 ≤ n ∧ n ≤ 3999) (rom : Bool) : parR (folL n rom).1 = (n, rom, 0) := by
  obtain ⟨k, rfl⟩ : ∃ k : Nat, n = k := ⟨n.toNat, by omega⟩
  unfold folL
  rw [if_neg (by omega)]
  cases rom with
  | true => rw [if_pos rfl]; exact parR_rom (by omega) (by omega) (by simp)
  | false => rw [if_neg (by decide)]; exact parR_dec (by omega) (by omega) rfl
theorem repL_front (t : List UInt8) : ∀ k, repL t (k + 1) = t ++ repL t k
  | 0 => by simp [repL]
  | k + 1 => by
    show repL t (k + 1) ++ t = t ++ (repL t k ++ t)
    rw [repL_front t k, List.append_assoc]
/-- The digits of a number, none of 0. -/
def decR (u : Nat) : List UInt8 := if u = 0 then [] else Lib.decDigits u
theorem decR_zero : decR 0 = [] := rfl
theorem decR_next {u : Nat} (h : u ≠ 0) : decR u = decR (u / 10) ++ [UInt8.ofNat (48 + u % 10)] := by
  unfold decR
  rw [if_neg h]
  by_cases h9 : u < 10
  · rw [if_pos (by omega), dc_lt h9, Nat.mod_eq_of_lt h9]; rfl
  · rw [if_neg (by omega), dc_ge (by omega)]
theorem decR_pos {u : Nat} (h : u ≠ 0) : decR u = Lib.itoa (u : Int) := by rw [itoa_of_nat]; unfold decR; rw [if_neg h]
end Go.Proofs.YtfbdklminljecaaGreatDoor
