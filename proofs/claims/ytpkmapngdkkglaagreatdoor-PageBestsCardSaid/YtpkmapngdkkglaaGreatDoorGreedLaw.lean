/-
  Plain law: longest pages; without headings and notes no breaks have fewer pages.
-/
import Derived.Test.YtpkmapngdkkglaaGreatDoorLeastLaw
import Derived.Test.YtpkmapngdkkglaaGreatDoorGI
namespace Go.Proofs.YtpkmapngdkkglaaGreatDoor
open Go.RowKit

/-- The end of the longest page from a on, of those that end at a + m at the latest (0: none). -/
def lonG (cs : CS) (a : Nat) : Nat → Nat
  | 0 => 0
  | m + 1 => if (cs a (a + m + 1)).2 = 0 then a + m + 1 else lonG cs a m
def gAt (cs : CS) (n : Nat) : Nat → Nat
  | 0 => 0
  | k + 1 => lonG cs (gAt cs n k) (n - gAt cs n k)
def gL (cs : CS) (n : Nat) : Nat → List Int
  | 0 => []
  | k + 1 => gL cs n k ++ [(gAt cs n (k + 1) : Int)]
def grdF (cs : CS) (n : Nat) : Nat → Nat → List Int × Int
  | 0, _ => ([], 12)
  | f + 1, k => if gAt cs n k = n then (gL cs n k, 0) else if gAt cs n (k + 1) = 0 then ([], 12) else grdF cs n f (k + 1)
/-- The breaks of longest pages, or the error. -/
def grdR (cs : CS) (n : Nat) : List Int × Int := if n = 0 then ([], 10) else grdF cs n (n + 1) 0
section
variable {cs : CS} {n : Nat}
theorem gL_len : ∀ k, (gL cs n k).length = k
  | 0 => rfl
  | k + 1 => by rw [gL, List.length_append, gL_len k]; rfl
theorem lonG_bd (a : Nat) : ∀ m, lonG cs a m = 0 ∨ (a < lonG cs a m ∧ lonG cs a m ≤ a + m ∧ (cs a (lonG cs a m)).2 = 0)
  | 0 => .inl rfl
  | m + 1 => by
    unfold lonG
    split
    · rename_i h; exact .inr ⟨by omega, by omega, h⟩
    · rcases lonG_bd a m with h | ⟨h1, h2, h3⟩
      · exact .inl h
      · exact .inr ⟨h1, by omega, h3⟩
theorem lonG_max (a : Nat) : ∀ m b, a < b → b ≤ a + m → (cs a b).2 = 0 → b ≤ lonG cs a m
  | 0, b, h1, h2, _ => by omega
  | m + 1, b, h1, h2, h3 => by
    unfold lonG
    split
    · omega
    · rename_i h
      by_cases e : b = a + m + 1
      · subst e; exact absurd h3 h
      · exact lonG_max a m b h1 (by omega) h3
theorem gAt_next {k : Nat} (hk : gAt cs n k ≤ n) (h : gAt cs n (k + 1) ≠ 0) : gAt cs n k < gAt cs n (k + 1) ∧ gAt cs n (k + 1) ≤ n ∧ (cs (gAt cs n k) (gAt cs n (k + 1))).2 = 0 := by
  rcases lonG_bd (cs := cs) (gAt cs n k) (n - gAt cs n k) with h1 | ⟨h1, h2, h3⟩
  · exact absurd h1 h
  · exact ⟨h1, by show lonG _ _ _ ≤ n; omega, h3⟩
/-- Right rounds: up to the k-th one there is always a page. -/
structure GOk (cs : CS) (n k : Nat) : Prop where
  le : gAt cs n k ≤ n
  few : k ≤ gAt cs n k
  page : ∀ i, i < k → gAt cs n i < gAt cs n (i + 1) ∧ gAt cs n (i + 1) ≤ n ∧ (cs (gAt cs n i) (gAt cs n (i + 1))).2 = 0
theorem GOk.zero : GOk cs n 0 := ⟨Nat.zero_le _, Nat.zero_le _, fun i h => absurd h (by omega)⟩
theorem GOk.next {k : Nat} (h : GOk cs n k) (h1 : gAt cs n (k + 1) ≠ 0) : GOk cs n (k + 1) := by
  obtain ⟨q1, q2, q3⟩ := gAt_next h.le h1
  have := h.few
  refine ⟨q2, by omega, fun i hi => ?_⟩
  by_cases e : i = k
  · subst e; exact ⟨q1, q2, q3⟩
  · exact h.page i (by omega)
theorem GOk.brk {k : Nat} (h : GOk cs n k) : ∃ s, Brk cs 0 (gL cs n k) s (gAt cs n k) := by
  induction k with
  | zero => exact ⟨0, .nil 0⟩
  | succ k ih =>
    obtain ⟨s, hs⟩ := ih ⟨by have := h.page k (by omega); omega, by
      have : ∀ i, i ≤ k → i ≤ gAt cs n i := fun i => by
        induction i with
        | zero => intro _; exact Nat.zero_le _
        | succ i ih2 => intro hi; have := ih2 (by omega); have := (h.page i (by omega)).1; omega
      exact this k (Nat.le_refl _), fun i hi => h.page i (by omega)⟩
    obtain ⟨q1, _, q3⟩ := h.page k (by omega)
    exact ⟨_, hs.snoc q1 q3⟩
theorem grdF_ok : ∀ f k, GOk cs n k → (grdF cs n f k).2 = 0 → ∃ m, GOk cs n m ∧ gAt cs n m = n ∧ (grdF cs n f k).1 = gL cs n m ∧ ∀ i, i < m → k ≤ i → gAt cs n i ≠ n
  | 0, _, _, h => by cases h
  | f + 1, k, hk, h => by
    unfold grdF at h ⊢
    by_cases h1 : gAt cs n k = n
    · rw [if_pos h1]; exact ⟨k, hk, h1, rfl, fun i h2 h3 => by omega⟩
    rw [if_neg h1] at h ⊢
    by_cases h2 : gAt cs n (k + 1) = 0
    · rw [if_pos h2] at h; cases h
    rw [if_neg h2] at h ⊢
    obtain ⟨m, q1, q2, q3, q4⟩ := grdF_ok f (k + 1) (hk.next h2) h
    refine ⟨m, q1, q2, q3, fun i hi h3 => ?_⟩
    by_cases e : i = k
    · subst e; exact h1
    · exact q4 i hi (by omega)
theorem grdR_ok (h : (grdR cs n).2 = 0) : 0 < n ∧ ∃ m, GOk cs n m ∧ gAt cs n m = n ∧ (grdR cs n).1 = gL cs n m ∧ ∀ i, i < m → gAt cs n i ≠ n := by
  unfold grdR at h ⊢
  by_cases h0 : n = 0
  · rw [if_pos h0] at h; cases h
  rw [if_neg h0] at h ⊢
  obtain ⟨m, q1, q2, q3, q4⟩ := grdF_ok _ _ .zero h
  exact ⟨by omega, m, q1, q2, q3, fun i hi => q4 i hi (Nat.zero_le _)⟩
theorem grdR_len (hn : n ≤ 200) : (grdR cs n).1.length ≤ 1000 := by
  have key : ∀ f k, GOk cs n k → (grdF cs n f k).1.length ≤ 1000 := fun f => by
    induction f with
    | zero => intro k _; simp [grdF]
    | succ f ih =>
      intro k hk
      unfold grdF
      have h1 := hk.le
      have h2 := hk.few
      split
      · rw [gL_len]; omega
      · split
        · simp
        · rename_i h3; exact ih _ (hk.next h3)
  unfold grdR
  split
  · simp
  · exact key _ _ .zero
theorem grd_accepted (h : (grdR cs n).2 = 0) : (cbR cs n (grdR cs n).1).2 = 0 := by
  obtain ⟨h0, m, q1, q2, q3, _⟩ := grdR_ok h
  obtain ⟨s, hs⟩ := q1.brk
  rw [q3]
  rw [q2] at hs
  rw [cbR_of h0 hs]
end
theorem grdF_next {cs : CS} {n k f : Nat} (h : gAt cs n k ≠ n) (h2 : gAt cs n (k + 1) ≠ 0) : grdF cs n (f + 1) k = grdF cs n f (k + 1) := by
  rw [grdF, if_neg h, if_neg h2]
theorem grdF_none {cs : CS} {n k f : Nat} (h : gAt cs n k ≠ n) (h2 : gAt cs n (k + 1) = 0) : grdF cs n (f + 1) k = ([], 12) := by
  rw [grdF, if_neg h, if_pos h2]
theorem grdF_end {cs : CS} {n k f : Nat} (h : gAt cs n k = n) : grdF cs n (f + 1) k = (gL cs n k, 0) := by
  rw [grdF, if_pos h]
/-- No headings and no notes. -/
structure Bare (g : GT) : Prop where
  notes : g.notes.length = 0
  kinds : ∀ k, k < g.items.length → (g.items.getD k IT.zero).kind ≠ 2
theorem bare_notes {g : GT} (hr : RightG g) (hb : Bare g) (a : Nat) : ∀ n, a + n ≤ g.items.length → notesR g.items a n = []
  | 0, _ => rfl
  | n + 1, h => by
    unfold notesR
    have := (hr.items (a + n) (by omega)).note
    rw [if_neg (by have := hb.notes; omega)]
    exact bare_notes hr hb a n (by omega)
theorem bare_uses {g : GT} (hr : RightG g) (hb : Bare g) (r : QT) {a b : Nat} (h : a ≤ b) (h2 : b ≤ g.items.length) : usesR g r a b = hTo g.items (coreA g.items a b) (coreB g.items a b - coreA g.items a b) := by
  unfold usesR
  rw [bare_notes hr hb a (b - a) (by omega)]
  simp [nSum, sumTo]
theorem hTo_sub {g : GT} (hr : RightG g) {A B A' B' : Nat} (h1 : A ≤ A') (h2 : A' ≤ B') (h3 : B' ≤ B) (h4 : B ≤ g.items.length) : hTo g.items A' (B' - A') ≤ hTo g.items A (B - A) := by
  have e : B - A = (A' - A) + ((B' - A') + (B - B')) := by omega
  unfold hTo
  rw [e, sumTo_two, sumTo_two]
  have p1 := sumTo_bd (fun k => (g.items.getD (A + k) IT.zero).height) 2000 (A' - A) fun k hk => by have := (hr.items (A + k) (by omega)).height; omega
  have p2 := sumTo_bd (fun i => (g.items.getD (A + (A' - A + (B' - A' + i))) IT.zero).height) 2000 (B - B') fun k hk => by have := (hr.items (A + (A' - A + (B' - A' + k))) (by omega)).height; omega
  have p3 : (fun i => (g.items.getD (A + (A' - A + i)) IT.zero).height) = fun k => (g.items.getD (A' + k) IT.zero).height := by
    funext k; rw [show A + (A' - A + k) = A' + k by omega]
  rw [p3]
  omega
theorem cost_sub {g : GT} (hr : RightG g) (hb : Bare g) {r : QT} {a b a' b' : Nat} (h : a ≤ b) (hn : b ≤ g.items.length) (h' : a' ≤ b') (hn' : b' ≤ g.items.length)
    (hsub : ∀ k, a' ≤ k → k < b' → (g.items.getD k IT.zero).kind ≠ 4 → a ≤ k ∧ k < b) (hc : (costR g r a b).2 = 0) (hne : coreA g.items a' b' < coreB g.items a' b') : (costR g r a' b').2 = 0 := by
  obtain ⟨c1, c2⟩ := cost_fits hc
  have hu := bare_uses hr hb r h hn
  have hu' := bare_uses hr hb r h' hn'
  obtain ⟨p1, p2, p3⟩ := core_bd g.items a b h
  obtain ⟨q1, q2, q3⟩ := core_bd g.items a' b' h'
  obtain ⟨f1, f2⟩ := core_first h' hne
  have k1 := hsub _ q1 (by omega) f1
  have k2 := hsub (coreB g.items a' b' - 1) (by omega) (by omega) f2
  have e1 : coreA g.items a b ≤ coreA g.items a' b' := by
    rcases Nat.lt_or_ge (coreA g.items a' b') (coreA g.items a b) with h9 | h9
    · exact absurd (core_out h _ k1.1 k1.2 (.inl h9)) f1
    · exact h9
  have e2 : coreB g.items a' b' ≤ coreB g.items a b := by
    rcases Nat.lt_or_ge (coreB g.items a b) (coreB g.items a' b') with h9 | h9
    · exact absurd (core_out h _ k2.1 k2.2 (.inr (by omega))) f2
    · exact h9
  have := hTo_sub hr e1 (by omega) e2 (by omega)
  have hk := hb.kinds (coreB g.items a' b' - 1) (by omega)
  unfold costR
  rw [if_neg (by omega), if_neg (by omega), if_neg (fun h9 => hk h9.1)]
theorem greedy_few {g : GT} (hr : RightG g) (hb : Bare g) {r : QT} {m : Nat} (hm : GOk (costR g r) g.items.length m) {l : List Int} {s : Int} (hl : Brk (costR g r) 0 l s g.items.length) :
    ∀ i, i ≤ m → i ≤ l.length → begG 0 l i ≤ gAt (costR g r) g.items.length i
  | 0, _, _ => Nat.zero_le _
  | i + 1, h1, h2 => by
    have ih := greedy_few hr hb hm hl i (by omega) (by omega)
    obtain ⟨q1, q2, q3⟩ := hm.page i (by omega)
    obtain ⟨p1, p2, p3, p4⟩ := hl.page_at i (by omega)
    rw [begG_succ]
    generalize hB : (l.getD i 0).toNat = B at *
    generalize hb0 : begG 0 l i = b0 at *
    rcases Nat.lt_or_ge (gAt (costR g r) g.items.length i) B with hlt | hge
    case inr => omega
    have hmax : ∀ j, (gAt (costR g r) g.items.length j) < B → (costR g r (gAt (costR g r) g.items.length j) B).2 = 0 → B ≤ gAt (costR g r) g.items.length (j + 1) := fun j hj hc => by
      show B ≤ lonG _ _ _
      exact lonG_max _ _ B hj (by omega) hc
    by_cases hne : coreA g.items (gAt (costR g r) g.items.length i) B < coreB g.items (gAt (costR g r) g.items.length i) B
    · refine hmax i hlt (cost_sub hr hb (a := b0) (b := B) (by omega) p3 (by omega) p3 (fun k hk1 hk2 _ => by omega) p4 hne)
    · have hgap := core_none (Nat.le_of_lt hlt) hne
      exfalso
      cases i with
      | zero =>
        have e0 : gAt (costR g r) g.items.length 0 = 0 := rfl
        rw [e0] at hne
        obtain rfl : b0 = 0 := by omega
        exact hne (cost_fits p4).1
      | succ j =>
        obtain ⟨z1, z2, z3⟩ := hm.page j (by omega)
        have h9 := (cost_fits z3).1
        have hn9 : coreA g.items (gAt (costR g r) g.items.length j) B < coreB g.items (gAt (costR g r) g.items.length j) B := by
          obtain ⟨c1, c2, c3⟩ := core_bd g.items _ _ (Nat.le_of_lt z1)
          exact core_some (by omega) _ c1 (by omega) (core_first (Nat.le_of_lt z1) h9).1
        have := hmax j (by omega) (cost_sub hr hb (a := gAt (costR g r) g.items.length j) (b := gAt (costR g r) g.items.length (j + 1)) (by omega) z2 (by omega) p3 (fun k hk1 hk2 hk3 => by
          rcases Nat.lt_or_ge k (gAt (costR g r) g.items.length (j + 1)) with h | h
          · exact ⟨hk1, h⟩
          · exact absurd (hgap k h hk2) hk3) z3 hn9)
        omega
/-- Without headings and notes no accepted breaks have fewer pages than those of longest pages. -/
theorem greedy_least {g : GT} (hr : RightG g) (hb : Bare g) {r : QT} (h : (grdR (costR g r) g.items.length).2 = 0) {l : List Int} (hl : (cbR (costR g r) g.items.length l).2 = 0) : (grdR (costR g r) g.items.length).1.length ≤ l.length := by
  obtain ⟨h0, m, q1, q2, q3, q4⟩ := grdR_ok h
  have hB := cbR_ok hl
  rw [q3, gL_len]
  rcases Nat.lt_or_ge l.length m with hlt | hge
  case inr => exact hge
  have h1 := greedy_few hr hb q1 hB l.length (by omega) (Nat.le_refl _)
  rw [hB.ends] at h1
  have h2 : gAt (costR g r) g.items.length l.length ≤ g.items.length := by
    have := q1.page l.length hlt; omega
  exact absurd (by omega) (q4 l.length hlt)
end Go.Proofs.YtpkmapngdkkglaaGreatDoor
