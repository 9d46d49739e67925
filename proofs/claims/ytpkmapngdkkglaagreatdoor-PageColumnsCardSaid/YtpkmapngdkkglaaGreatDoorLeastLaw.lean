/-
  Plain law: least costs up to each place; breaks and labels that are accepted.
-/
import Derived.Test.YtpkmapngdkkglaaGreatDoorGG
import Derived.Test.YtpkmapngdkkglaaGreatDoorGF
namespace Go.Proofs.YtpkmapngdkkglaaGreatDoor
open Go.RowKit

theorem xe0 (w : World) : Ext w w := Ext.refl w
theorem xea {a b : World} (h : Ext a b) (o : Obj) : Ext a (b.alloc o) := h.alloc o
theorem xed {a b : World} (h : Ext a b) : Ext a b.drew := h.drew
theorem xes {a b : World} (h : Ext a b) {p : Addr} (hp : a.heap.size ≤ p.block) (v : Value) : Ext a (b.setCell p v) := h.setCell hp v
theorem xet {a b c : World} (h : Ext a b) (k : Ext b c) : Ext a c := h.trans k
/-- The least of the ways over places before m to b (-1: none). -/
def minL (cs : CS) (out : List Int) (b : Nat) : Nat → Int
  | 0 => -1
  | m + 1 => if 0 ≤ out.getD m 0 ∧ (cs m b).2 = 0 ∧ (minL cs out b m < 0 ∨ out.getD m 0 + (cs m b).1 < minL cs out b m) then out.getD m 0 + (cs m b).1 else minL cs out b m
/-- The least costs up to each of the places 0 to b (-1: none). -/
def lstTo (cs : CS) : Nat → List Int
  | 0 => [0]
  | b + 1 => lstTo cs b ++ [minL cs (lstTo cs b) (b + 1) (b + 1)]
theorem lstTo_len (cs : CS) : ∀ b, (lstTo cs b).length = b + 1
  | 0 => rfl
  | b + 1 => by rw [lstTo, List.length_append, lstTo_len cs b]; rfl
theorem getD_app {l r : List Int} {j : Nat} (h : j < l.length) : (l ++ r).getD j 0 = l.getD j 0 := by
  rw [List.getD_eq_getElem?_getD, List.getElem?_append_left h, ← List.getD_eq_getElem?_getD]
theorem getD_end (l : List Int) (z : Int) : (l ++ [z]).getD l.length 0 = z := by
  rw [List.getD_eq_getElem?_getD, List.getElem?_append_right (Nat.le_refl _)]; simp
def LeastM (P : Int → Prop) (v : Int) : Prop := (v = -1 ∧ ∀ c, ¬ P c) ∨ (0 ≤ v ∧ P v ∧ ∀ c, P c → v ≤ c)
section
variable {cs : CS} {n : Nat}
theorem way_zero {k : Nat} {c : Int} (h : Way cs k 0 c) : c = 0 := by
  cases h with
  | nil => rfl
  | page _ h1 _ _ => omega
theorem minL_least (hs : Small cs n) {b : Nat} {out : List Int} (hb : b ≤ n) (ho : ∀ j, j < b → LeastM (Way cs j j) (out.getD j 0)) : ∀ m, m ≤ b → (0 < b) → LeastM (Way cs m b) (minL cs out b m)
  | 0, _, hb0 => .inl ⟨rfl, fun c h => by cases h with | nil => omega | page _ _ h2 _ => omega⟩
  | m + 1, hm, hb0 => by
    have ih := minL_least hs hb ho m (by omega) hb0
    have hm0 := ho m (by omega)
    unfold minL
    by_cases hc : 0 ≤ out.getD m 0 ∧ (cs m b).2 = 0
    · obtain ⟨hc1, hc2⟩ := hc
      rcases hm0 with ⟨h1, _⟩ | ⟨_, h2, h3⟩
      · omega
      have hcb := hs m b (by omega) hb hc2
      have hw : Way cs (m + 1) b (out.getD m 0 + (cs m b).1) := .page (h2.mono (by omega)) (by omega) (by omega) hc2
      by_cases hlt : minL cs out b m < 0 ∨ out.getD m 0 + (cs m b).1 < minL cs out b m
      · rw [if_pos ⟨hc1, hc2, hlt⟩]
        refine .inr ⟨by omega, hw, fun c hcw => ?_⟩
        rcases hcw.split (by omega) with h | ⟨c', h4, _, rfl⟩
        · rcases ih with ⟨_, h5⟩ | ⟨h5, _, h6⟩
          · exact absurd h (h5 c)
          · have := h6 c h; omega
        · have := h3 c' h4; omega
      · rw [if_neg (fun h => hlt h.2.2)]
        rcases ih with ⟨h5, _⟩ | ⟨h5, h6, h7⟩
        · omega
        refine .inr ⟨h5, h6.mono (by omega), fun c hcw => ?_⟩
        rcases hcw.split (by omega) with h | ⟨c', h4, _, rfl⟩
        · exact h7 c h
        · have := h3 c' h4; omega
    · rw [if_neg (fun h => hc ⟨h.1, h.2.1⟩)]
      have hno : ∀ c, Way cs (m + 1) b c → Way cs m b c := fun c hcw => by
        rcases hcw.split (by omega) with h | ⟨c', h4, h5, rfl⟩
        · exact h
        · exfalso
          rcases hm0 with ⟨_, h2⟩ | ⟨h1, _⟩
          · exact h2 c' h4
          · exact hc ⟨h1, h5⟩
      rcases ih with ⟨h5, h6⟩ | ⟨h5, h6, h7⟩
      · exact .inl ⟨h5, fun c hcw => h6 c (hno c hcw)⟩
      · exact .inr ⟨h5, h6.mono (by omega), fun c hcw => h7 c (hno c hcw)⟩
theorem lst_least (hs : Small cs n) : ∀ b, b ≤ n → ∀ j, j ≤ b → LeastM (Way cs j j) ((lstTo cs b).getD j 0)
  | 0, _, j, hj => by
    obtain rfl : j = 0 := by omega
    exact .inr ⟨Int.le_refl _, .nil, fun c h => by rw [way_zero h]; exact Int.le_refl _⟩
  | b + 1, hb, j, hj => by
    rw [lstTo]
    by_cases h : j ≤ b
    · rw [getD_app (by rw [lstTo_len]; omega)]
      exact lst_least hs b (by omega) j h
    · obtain rfl : j = b + 1 := by omega
      have h9 := getD_end (lstTo cs b) (minL cs (lstTo cs b) (b + 1) (b + 1))
      rw [lstTo_len] at h9
      rw [h9]
      exact minL_least hs hb (fun i hi => lst_least hs b (by omega) i (by omega)) (b + 1) (Nat.le_refl _) (by omega)
theorem lst_bd (hs : Small cs n) (b : Nat) (hb : b ≤ n) (j : Nat) (hj : j ≤ b) : -1 ≤ (lstTo cs b).getD j 0 ∧ (lstTo cs b).getD j 0 ≤ j * 6000000 := by
  rcases lst_least hs b hb j hj with ⟨h1, _⟩ | ⟨h1, h2, _⟩
  · omega
  · have := h2.bd hs (by omega); omega
theorem minL_bd (hs : Small cs n) {b : Nat} (hb : b < n) (m : Nat) (hm : m ≤ b + 1) : -1 ≤ minL cs (lstTo cs b) (b + 1) m ∧ minL cs (lstTo cs b) (b + 1) m ≤ (b + 1 : Nat) * 6000000 := by
  rcases minL_least (b := b + 1) hs (by omega) (fun i hi => lst_least hs b (by omega) i (by omega)) m hm (by omega) with ⟨h1, _⟩ | ⟨h1, h2, _⟩
  · omega
  · have := h2.bd hs (by omega); omega
/-- What Best finds is the least cost. -/
theorem least_lab (hs : Small cs n) (hn2 : n ≤ 200) : (lstTo cs n).getD n 0 = if (allB cs n n).lab.getD n 0 = farC then -1 else (allB cs n n).lab.getD n 0 := by
  have h1 := (best_law hs hn2).1
  have h2 := lst_least hs n (Nat.le_refl _) n (Nat.le_refl _)
  rcases h1 with ⟨a1, a2⟩ | ⟨a1, a2, a3⟩
  · rw [if_pos a1]
    rcases h2 with ⟨b1, _⟩ | ⟨_, b2, _⟩
    · exact b1
    · exact absurd b2 (a2 _)
  · rw [if_neg (by omega)]
    rcases h2 with ⟨_, b1⟩ | ⟨_, b2, b3⟩
    · exact absurd a2 (b1 _)
    · have := a3 _ b2; have := b3 _ a2; omega
/-- The error of a break behind place b. -/
def cbErr (cs : CS) (n : Nat) (b : Nat) (z : Int) : Int := if ¬ (0 ≤ z ∧ z ≤ n) then 2 else if z ≤ b then 9 else (cs b z.toNat).2
/-- Where k breaks end. -/
def cbAt (l : List Int) (k : Nat) : Nat := begG 0 l k
def cbE (cs : CS) (n : Nat) (l : List Int) (k : Nat) : Int := cbErr cs n (cbAt l k) (l.getD k 0)
/-- The sum of the costs of breaks, and the error. -/
def cbR (cs : CS) (n : Nat) (l : List Int) : Int × Int :=
  if firstE (cbE cs n l) l.length ≠ 0 then (0, firstE (cbE cs n l) l.length) else if l.length = 0 ∨ cbAt l l.length ≠ n then (0, 14) else (brkSum cs 0 l l.length, 0)
theorem cbErr_zero {b : Nat} {z : Int} (h : cbErr cs n b z = 0) : ∃ e : Nat, z = e ∧ b < e ∧ e ≤ n ∧ (cs b e).2 = 0 := by
  unfold cbErr at h
  by_cases h1 : 0 ≤ z ∧ z ≤ n
  · rw [if_neg (by omega)] at h
    by_cases h2 : z ≤ b
    · rw [if_pos h2] at h; cases h
    · rw [if_neg h2] at h
      obtain ⟨e, rfl⟩ : ∃ e : Nat, z = e := ⟨z.toNat, by omega⟩
      rw [Int.toNat_natCast] at h
      exact ⟨e, rfl, by omega, by omega, h⟩
  · rw [if_pos h1] at h; cases h
theorem cbAt_zero (l : List Int) : cbAt l 0 = 0 := rfl
theorem cbAt_succ (l : List Int) (k : Nat) : cbAt l (k + 1) = (l.getD k 0).toNat := begG_succ 0 l k
theorem brkSum_succ (l : List Int) (k : Nat) : brkSum cs 0 l (k + 1) = brkSum cs 0 l k + (cs (cbAt l k) (l.getD k 0).toNat).1 := rfl
/-- Behind k right breaks. -/
theorem cb_bd (hs : Small cs n) {l : List Int} : ∀ k, (∀ j, j < k → cbE cs n l j = 0) → k ≤ cbAt l k ∧ (0 < k → cbAt l k ≤ n) ∧ 0 ≤ brkSum cs 0 l k ∧ brkSum cs 0 l k ≤ k * 6000000
  | 0, _ => ⟨Nat.zero_le _, fun h => by omega, Int.le_refl _, by simp [brkSum]⟩
  | k + 1, h => by
    obtain ⟨q1, q2, q3, q4⟩ := cb_bd hs k fun j hj => h j (by omega)
    obtain ⟨e, h1, h2, h3, h4⟩ := cbErr_zero (h k (by omega))
    have h5 := hs _ _ h2 h3 h4
    rw [cbAt_succ, brkSum_succ, h1, Int.toNat_natCast]
    refine ⟨by omega, fun _ => h3, by omega, by omega⟩
theorem cb_brk {l : List Int} : ∀ k, k ≤ l.length → (∀ j, j < k → cbE cs n l j = 0) → Brk cs 0 (l.take k) (brkSum cs 0 l k) (cbAt l k)
  | 0, _, _ => by simpa [brkSum, cbAt, begG] using Brk.nil (cs := cs) 0
  | k + 1, hk, h => by
    have ih := cb_brk k (by omega) fun j hj => h j (by omega)
    obtain ⟨e, h1, h2, h3, h4⟩ := cbErr_zero (h k (by omega))
    have := ih.snoc h2 h4
    rw [cbAt_succ, brkSum_succ, h1, Int.toNat_natCast, List.take_succ_eq_append_getElem (by omega)]
    have h9 : l[k] = (e : Int) := by rw [← h1, List.getD_eq_getElem?_getD, List.getElem?_eq_getElem (by omega)]; rfl
    rwa [h9]
theorem cbR_ok {l : List Int} (h : (cbR cs n l).2 = 0) : Brk cs 0 l (cbR cs n l).1 n := by
  unfold cbR at h ⊢
  by_cases h1 : firstE (cbE cs n l) l.length ≠ 0
  · rw [if_pos h1] at h; exact absurd h h1
  rw [if_neg h1] at h ⊢
  by_cases h2 : l.length = 0 ∨ cbAt l l.length ≠ n
  · rw [if_pos h2] at h; cases h
  rw [if_neg h2]
  have h3 : cbAt l l.length = n := by
    by_cases h4 : cbAt l l.length = n
    · exact h4
    · exact absurd (.inr h4) h2
  have := cb_brk (cs := cs) (n := n) (l := l) l.length (Nat.le_refl _) (firstE_zero (by simpa using h1))
  rwa [List.take_length, h3] at this
/-- Breaks are accepted, with their cost. -/
theorem cbR_of {l : List Int} {s : Int} (hn : 0 < n) (h : Brk cs 0 l s n) : cbR cs n l = (s, 0) := by
  have h0 : ∀ k, k < l.length → cbE cs n l k = 0 := fun k hk => by
    obtain ⟨h1, h2, h3, h4⟩ := h.page_at k hk
    unfold cbE cbErr cbAt
    rw [if_neg (by omega), if_neg (by omega)]
    exact h4
  unfold cbR
  have hl : l.length ≠ 0 := fun h9 => by
    obtain rfl := List.eq_nil_of_length_eq_zero h9
    cases h
    omega
  rw [if_neg (by rw [firstE_none h0]; simp), if_neg (by rintro (h1 | h1); exact hl h1; exact h1 h.ends), h.total]
/-- Labels that no page beats. -/
def labOk (cs : CS) (n : Nat) (lab : List Int) : Bool := (List.range n).all fun a => (List.range n).all fun m => decide (n < a + m + 1) || decide ((cs a (a + m + 1)).2 ≠ 0) || decide (lab.getD (a + m + 1) 0 ≤ lab.getD a 0 + (cs a (a + m + 1)).1)
def badL (z : Int) : Bool := !(decide (0 ≤ z) && decide (z ≤ 1000000000000))
def clR (cs : CS) (n : Nat) (lab : List Int) : Int × Int :=
  if lab.length ≠ n + 1 then (0, 10) else if (idxOf badL lab lab.length).isSome = true then (0, 2) else if lab.getD 0 0 ≠ 0 then (0, 22) else if labOk cs n lab = false then (0, 22) else (lab.getD n 0, 0)
theorem labOk_iff {lab : List Int} : labOk cs n lab = true ↔ ∀ a b, a < b → b ≤ n → (cs a b).2 = 0 → lab.getD b 0 ≤ lab.getD a 0 + (cs a b).1 := by
  unfold labOk
  simp only [List.all_eq_true, List.mem_range, Bool.or_eq_true, decide_eq_true_eq]
  refine ⟨fun h a b h1 h2 h3 => ?_, fun h a ha m hm => ?_⟩
  · have := h a (by omega) (b - a - 1) (by omega)
    rw [show a + (b - a - 1) + 1 = b by omega] at this
    rcases this with (h4 | h4) | h4
    · omega
    · exact absurd h3 h4
    · exact h4
  · by_cases h1 : n < a + m + 1
    · exact .inl (.inl h1)
    by_cases h2 : (cs a (a + m + 1)).2 = 0
    · exact .inr (h a (a + m + 1) (by omega) (by omega) h2)
    · exact .inl (.inr h2)
theorem clR_of {lab : List Int} (h1 : lab.length = n + 1) (h2 : ∀ k, k < lab.length → 0 ≤ lab.getD k 0 ∧ lab.getD k 0 ≤ 1000000000000) (h3 : lab.getD 0 0 = 0) (h4 : ∀ a b, a < b → b ≤ n → (cs a b).2 = 0 → lab.getD b 0 ≤ lab.getD a 0 + (cs a b).1) : clR cs n lab = (lab.getD n 0, 0) := by
  unfold clR
  rw [if_neg (by omega), if_neg, if_neg (by omega), if_neg (by rw [labOk_iff.2 h4]; decide)]
  rw [idxOf_isSome]
  rintro ⟨k, hk, hb⟩
  have h9 := h2 k hk
  have h8 : badL (lab.getD k 0) = false := by unfold badL; rw [decide_eq_true h9.1, decide_eq_true h9.2]; rfl
  rw [h8] at hb
  cases hb
theorem clR_ok {lab : List Int} (h : (clR cs n lab).2 = 0) : (clR cs n lab).1 = lab.getD n 0 ∧ lab.getD 0 0 = 0 ∧ ∀ a b, a < b → b ≤ n → (cs a b).2 = 0 → lab.getD b 0 ≤ lab.getD a 0 + (cs a b).1 := by
  unfold clR at h ⊢
  by_cases h1 : lab.length ≠ n + 1
  · rw [if_pos h1] at h; cases h
  rw [if_neg h1] at h ⊢
  by_cases h2 : (idxOf badL lab lab.length).isSome = true
  · rw [if_pos h2] at h; cases h
  rw [if_neg h2] at h ⊢
  by_cases h3 : lab.getD 0 0 ≠ 0
  · rw [if_pos h3] at h; cases h
  rw [if_neg h3] at h ⊢
  by_cases h4 : labOk cs n lab = false
  · rw [if_pos h4] at h; cases h
  rw [if_neg h4]
  exact ⟨rfl, by simpa using h3, labOk_iff.1 (by simpa using h4)⟩
/-- No breaks cost less than labels prove. -/
theorem proof_law {l lab : List Int} (h1 : (cbR cs n l).2 = 0) (h2 : (clR cs n lab).2 = 0) : (clR cs n lab).1 ≤ (cbR cs n l).1 := by
  obtain ⟨q1, q2, q3⟩ := clR_ok h2
  have := labels_law q3 (cbR_ok h1) (Nat.le_refl _)
  rw [q1]; omega
/-- The labels that Best finds are accepted. -/
theorem best_labels (hs : Small cs n) (hn2 : n ≤ 200) : clR cs n (allB cs n n).lab = ((allB cs n n).lab.getD n 0, 0) := by
  have h := inv_all hs hn2 n (Nat.le_refl _)
  have hl : ∀ k, k ≤ n → 0 ≤ (allB cs n n).lab.getD k 0 ∧ (allB cs n n).lab.getD k 0 ≤ 1000000000000 := fun k hk => by
    rcases h.least k hk with ⟨h1, _⟩ | ⟨h1, h2, _⟩
    · rw [h1]; unfold farC; omega
    · have := h2.bd hs hk; unfold farC at h1; omega
  refine clR_of h.len (fun k hk => hl k (by rw [h.len] at hk; omega)) ?_ fun a b h1 h2 h3 => ?_
  · rcases h.least 0 (by omega) with ⟨_, q1⟩ | ⟨_, q2, _⟩
    · exact absurd .nil (q1 0)
    · exact way_zero q2
  · have hc := hs a b h1 h2 h3
    have hlb := hl b h2
    rcases h.least a (by omega) with ⟨q1, _⟩ | ⟨_, q2, _⟩
    · rw [q1]; unfold farC; omega
    · rcases h.least b h2 with ⟨_, p1⟩ | ⟨_, _, p3⟩
      · exact absurd (.page q2 h1 (by omega) h3) (p1 _)
      · exact p3 _ (.page q2 h1 (by omega) h3)
end
end Go.Proofs.YtpkmapngdkkglaaGreatDoor
