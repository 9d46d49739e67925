/-
  Plain law of folded sheets: folds and their errors, the pile of all folds, its scheme.
-/
import Derived.Test.YtniiahddpdiocaaFoldLaw
namespace Go.Proofs.Ytniiahddpdiocaa

/-- The error of a fold of a pile of so many columns and rows. -/
def sideOf (C R : Nat) (k : Int) : Nat := if k = 3 ∨ k = 4 then R else C
def foldE (C R : Nat) (k n : Int) : Int :=
  if ¬ (1 ≤ k ∧ k ≤ 6) then 15 else if k = 5 ∨ k = 6 then (if n = 0 then 0 else 2) else if n < 1 then 2 else if (sideOf C R k : Int) - n < n then 26 else 0
/-- What is left of the columns, and of the rows. -/
def foldC (C : Nat) (k n : Int) : Nat := if k = 1 ∨ k = 2 then C - n.toNat else C
def foldR (R : Nat) (k n : Int) : Nat := if k = 3 ∨ k = 4 then R - n.toNat else R
def foldP (p : Pl) (k n : Int) : Pl :=
  if k = 5 then overP p else if k = 6 then roundP p
  else laidP p (sideOf p.C p.R k - n.toNat) (decide (k = 3 ∨ k = 4)) (decide (k = 2 ∨ k = 4))
/-- A leaf of a sheet. -/
def Lf.ok (C0 R0 : Nat) (x : Lf) : Prop := 0 ≤ x.c ∧ x.c < (C0 : Int) ∧ 0 ≤ x.r ∧ x.r < (R0 : Int) ∧ (x.o = 0 ∨ x.o = 1) ∧ (x.u = 0 ∨ x.u = 1)
theorem Lf.ok.lt {C0 R0 : Nat} {x : Lf} (h : x.ok C0 R0) : 0 ≤ x.ix C0 ∧ x.ix C0 < ((R0 * C0 : Nat) : Int) := by
  obtain ⟨h1, h2, h3, h4, _⟩ := h
  obtain ⟨c, hc⟩ : ∃ c : Nat, x.c = (c : Int) := ⟨x.c.toNat, by omega⟩
  obtain ⟨r, hr⟩ : ∃ r : Nat, x.r = (r : Int) := ⟨x.r.toNat, by omega⟩
  have := grid_lt (C := C0) (R := R0) (c := c) (r := r) (by omega) (by omega)
  unfold Lf.ix
  rw [hc, hr, ← Int.natCast_mul, ← Int.natCast_add]
  omega
theorem Lf.ok.flip {C0 R0 : Nat} {x : Lf} (h : x.ok C0 R0) (b : Bool) : (x.flip b).ok C0 R0 := by
  obtain ⟨h1, h2, h3, h4, h5, h6⟩ := h
  refine ⟨h1, h2, h3, h4, ?_, ?_⟩
  · show 1 - x.o = 0 ∨ 1 - x.o = 1; omega
  · show (if b then 1 - x.u else x.u) = 0 ∨ (if b then 1 - x.u else x.u) = 1
    cases b <;> simp <;> omega
theorem Lf.ok.about {C0 R0 : Nat} {x : Lf} (h : x.ok C0 R0) : x.about.ok C0 R0 := by
  obtain ⟨h1, h2, h3, h4, h5, h6⟩ := h
  refine ⟨h1, h2, h3, h4, h5, ?_⟩
  show 1 - x.u = 0 ∨ 1 - x.u = 1
  omega

/-- A pile of a sheet, each cell once. -/
structure GoodP (C0 R0 : Nat) (p : Pl) : Prop where
  c1 : 1 ≤ p.C
  r1 : 1 ≤ p.R
  c8 : p.C ≤ 8
  r8 : p.R ≤ 8
  len : p.at_.length = p.R * p.C
  ok : ∀ c r, ∀ x ∈ p.st c r, x.ok C0 R0
  tot : ∀ q, q < R0 * C0 → totP C0 q p = 1
theorem mkP_len (C R : Nat) (g : Nat → Nat → List Lf) : (mkP C R g).at_.length = (mkP C R g).R * (mkP C R g).C := gridL_len _ _ _
theorem mkP_ok {C R C0 R0 : Nat} {g : Nat → Nat → List Lf} (h : ∀ c r, ∀ x ∈ g c r, x.ok C0 R0) (c r : Nat) : ∀ x ∈ (mkP C R g).st c r, x.ok C0 R0 := by
  intro x hx
  unfold Pl.st mkP at hx
  dsimp only at hx
  unfold gridL at hx
  rw [List.getD_eq_getElem?_getD] at hx
  cases h1 : ((List.range (R * C)).map fun k => g (k % C) (k / C))[r * C + c]? with
  | none => rw [h1] at hx; simp at hx
  | some l =>
    rw [h1] at hx
    rw [List.getElem?_map] at h1
    cases h2 : (List.range (R * C))[r * C + c]? with
    | none => rw [h2] at h1; simp at h1
    | some k =>
      rw [h2] at h1
      simp at h1
      subst h1
      exact h _ _ x (by simpa using hx)
theorem ok_turned {C0 R0 : Nat} {l : List Lf} (h : ∀ x ∈ l, x.ok C0 R0) (b : Bool) : ∀ x ∈ turnedP l b, x.ok C0 R0 := by
  intro x hx
  unfold turnedP at hx
  obtain ⟨y, hy, rfl⟩ := List.mem_map.1 hx
  exact (h y (List.mem_reverse.1 hy)).flip b
theorem GoodP.flat {C R : Nat} (hc : 1 ≤ C) (hr : 1 ≤ R) (h8 : C ≤ 8) (h9 : R ≤ 8) : GoodP C R (flatP C R) where
  c1 := hc
  r1 := hr
  c8 := h8
  r8 := h9
  len := mkP_len _ _ _
  ok := fun c r x hx => by
    unfold flatP Pl.st mkP gridL at hx
    dsimp only at hx
    rw [List.getD_eq_getElem?_getD, List.getElem?_map] at hx
    by_cases hl : r * C + c < R * C
    · rw [List.getElem?_range hl] at hx
      have hx2 : x = ⟨(((r * C + c) % C : Nat) : Int), (((r * C + c) / C : Nat) : Int), 0, 0⟩ := by
        simpa only [Option.map_some, Option.getD_some, List.mem_singleton] using hx
      subst hx2
      have h1 : (r * C + c) % C < C := Nat.mod_lt _ (by omega)
      have h2 : (r * C + c) / C < R := Nat.div_lt_of_lt_mul (by rw [Nat.mul_comm C R]; exact hl)
      exact ⟨Int.natCast_nonneg _, by show (((r * C + c) % C : Nat) : Int) < (C : Int); omega, Int.natCast_nonneg _, by show (((r * C + c) / C : Nat) : Int) < (R : Int); omega, .inl rfl, .inl rfl⟩
    · rw [List.getElem?_eq_none (by simp; omega)] at hx
      simp at hx
  tot := fun q hq => tot_flat hq
theorem get_ok {C0 R0 : Nat} {p : Pl} (h : ∀ c r, ∀ x ∈ p.st c r, x.ok C0 R0) (rows back : Bool) (a b : Nat) : ∀ x ∈ p.get rows back a b, x.ok C0 R0 := by
  unfold Pl.get
  dsimp only
  split
  · exact h _ _
  · exact h _ _
theorem put_ok {C0 R0 : Nat} {p : Pl} (h : ∀ c r, ∀ x ∈ p.st c r, x.ok C0 R0) (first : Nat) (rows back : Bool) (a b : Nat) : ∀ x ∈ p.put first rows back a b, x.ok C0 R0 := by
  intro x hx
  unfold Pl.put at hx
  generalize (if back then first - 1 - a else a) = z at hx
  by_cases hz : 2 * first - 1 - z < (if rows then p.R else p.C)
  · simp only [if_pos hz] at hx
    rcases List.mem_append.1 hx with h1 | h1
    · exact ok_turned (get_ok h _ _ _ _) _ x h1
    · exact get_ok h _ _ _ _ x h1
  · simp only [if_neg hz] at hx
    exact get_ok h _ _ _ _ x hx
theorem foldE_zero {C R : Nat} {k n : Int} (h : foldE C R k n = 0) : (k = 5 ∧ n = 0) ∨ (k = 6 ∧ n = 0) ∨ ((k = 1 ∨ k = 2 ∨ k = 3 ∨ k = 4) ∧ 1 ≤ n ∧ n + n ≤ (sideOf C R k : Int)) := by
  unfold foldE at h
  split at h
  · omega
  · split at h
    · split at h
      · omega
      · omega
    · split at h
      · omega
      · split at h
        · omega
        · omega
theorem GoodP.fold {C0 R0 : Nat} {p : Pl} {k n : Int} (h : GoodP C0 R0 p) (he : foldE p.C p.R k n = 0) : GoodP C0 R0 (foldP p k n) ∧ (foldP p k n).C = foldC p.C k n ∧ (foldP p k n).R = foldR p.R k n := by
  have h1 := h.c1; have h2 := h.r1; have h3 := h.c8; have h4 := h.r8
  rcases foldE_zero he with ⟨rfl, rfl⟩ | ⟨rfl, rfl⟩ | ⟨hk, hn1, hn2⟩
  · exact ⟨⟨h1, h2, h3, h4, mkP_len _ _ _, mkP_ok fun c r => ok_turned (h.ok _ _) _, fun q hq => (tot_over C0 q p).trans (h.tot q hq)⟩, rfl, rfl⟩
  · exact ⟨⟨h1, h2, h3, h4, mkP_len _ _ _, mkP_ok fun c r x hx => by obtain ⟨y, hy, rfl⟩ := List.mem_map.1 hx; exact (h.ok _ _ y hy).about, fun q hq => (tot_round C0 q p).trans (h.tot q hq)⟩, rfl, rfl⟩
  · have hf : foldP p k n = laidP p (sideOf p.C p.R k - n.toNat) (decide (k = 3 ∨ k = 4)) (decide (k = 2 ∨ k = 4)) := by
      unfold foldP; rw [if_neg (by omega), if_neg (by omega)]
    rw [hf]
    by_cases hr : k = 3 ∨ k = 4
    · have hs : sideOf p.C p.R k = p.R := if_pos hr
      rw [hs] at hn2 ⊢
      rw [decide_eq_true hr]
      have hl : ∀ b, laidP p (p.R - n.toNat) true b = mkP p.C (p.R - n.toNat) (fun c r => p.put (p.R - n.toNat) true b r c) := fun b => by unfold laidP; rfl
      refine ⟨⟨?_, ?_, ?_, ?_, ?_, ?_, ?_⟩, ?_, ?_⟩
      · rw [hl]; exact h1
      · rw [hl]; show 1 ≤ p.R - n.toNat; omega
      · rw [hl]; exact h3
      · rw [hl]; show p.R - n.toNat ≤ 8; omega
      · rw [hl]; exact mkP_len _ _ _
      · rw [hl]; exact mkP_ok fun c r => put_ok h.ok _ _ _ _ _
      · intro q hq
        rw [tot_laid C0 q p _ true _ (by simp) (by simp; omega)]
        exact h.tot q hq
      · rw [hl]; show p.C = foldC p.C k n; unfold foldC; rw [if_neg (by omega)]
      · rw [hl]; show p.R - n.toNat = foldR p.R k n; unfold foldR; rw [if_pos hr]
    · have hs : sideOf p.C p.R k = p.C := if_neg hr
      rw [hs] at hn2 ⊢
      rw [decide_eq_false hr]
      have hl : ∀ b, laidP p (p.C - n.toNat) false b = mkP (p.C - n.toNat) p.R (p.put (p.C - n.toNat) false b) := fun b => by unfold laidP; rfl
      refine ⟨⟨?_, ?_, ?_, ?_, ?_, ?_, ?_⟩, ?_, ?_⟩
      · rw [hl]; show 1 ≤ p.C - n.toNat; omega
      · rw [hl]; exact h2
      · rw [hl]; show p.C - n.toNat ≤ 8; omega
      · rw [hl]; exact h4
      · rw [hl]; exact mkP_len _ _ _
      · rw [hl]; exact mkP_ok fun c r => put_ok h.ok _ _ _ _ _
      · intro q hq
        rw [tot_laid C0 q p _ false _ (by simp) (by simp; omega)]
        exact h.tot q hq
      · rw [hl]; show p.C - n.toNat = foldC p.C k n; unfold foldC; rw [if_pos (by omega)]
      · rw [hl]; show p.R = foldR p.R k n; unfold foldR; rw [if_neg hr]

/-- The leaves are as many as the cells are. -/
theorem len_sum {C0 n : Nat} : ∀ l : List Lf, (∀ x ∈ l, 0 ≤ x.ix C0 ∧ x.ix C0 < (n : Int)) → l.length = sN (fun q => cntL C0 q l) n
  | [], _ => (sN_zero n).symm
  | x :: l, h => by
    have ih := len_sum l (fun y hy => h y (List.mem_cons_of_mem _ hy))
    have hx := h x (List.mem_cons_self ..)
    have e : sN (fun q => cntL C0 q (x :: l)) n = sN (fun q => (if x.ix C0 = (q : Int) then 1 else 0)) n + sN (fun q => cntL C0 q l) n := (sN_ext fun q hq => rfl).trans (sN_add _ _ n)
    have e1 : ∀ m : Nat, sN (fun q => (if x.ix C0 = (q : Int) then 1 else 0)) m = if x.ix C0 < (m : Int) then 1 else 0 := fun m => by
      induction m with
      | zero => rw [sN, if_neg (by omega)]
      | succ m ih =>
        rw [sN, ih]
        by_cases h1 : x.ix C0 < (m : Int)
        · rw [if_pos h1, if_neg (by omega), if_pos (by omega)]
        · rw [if_neg h1]
          by_cases h2 : x.ix C0 = (m : Int)
          · rw [if_pos h2, if_pos (by omega)]
          · rw [if_neg h2, if_neg (by omega)]
    rw [e, e1, if_pos hx.2, List.length_cons, ih]
    omega
theorem sN_le {f g : Nat → Nat} : ∀ {n : Nat}, (∀ i, i < n → f i ≤ g i) → sN f n ≤ sN g n
  | 0, _ => Nat.le_refl _
  | n + 1, h => by rw [sN, sN]; have := sN_le (n := n) fun i hi => h i (by omega); have := h n (by omega); omega
theorem sN_one : ∀ n : Nat, sN (fun _ => 1) n = n
  | 0 => rfl
  | n + 1 => by rw [sN, sN_one n]
theorem sN_in (f : Nat → Nat) : ∀ {n i : Nat}, i < n → f i ≤ sN f n
  | n + 1, i, h => by
    rw [sN]
    by_cases h1 : i = n
    · subst h1; omega
    · have := sN_in f (n := n) (i := i) (by omega); omega
/-- A place has at most as many leaves as the sheet has cells. -/
theorem GoodP.st_len {C0 R0 : Nat} {p : Pl} (h : GoodP C0 R0 p) {c r : Nat} (hc : c < p.C) (hr : r < p.R) : (p.st c r).length ≤ R0 * C0 := by
  rw [len_sum (C0 := C0) (n := R0 * C0) (p.st c r) fun x hx => (h.ok c r x hx).lt]
  refine Nat.le_trans (sN_le (g := fun _ => 1) fun q hq => ?_) (Nat.le_of_eq (sN_one _))
  have h1 : cntL C0 q (p.st c r) ≤ sN (fun c => cntL C0 q (p.st c r)) p.C := sN_in (fun c => cntL C0 q (p.st c r)) hc
  have h2 : sN (fun c => cntL C0 q (p.st c r)) p.C ≤ sN (fun r => sN (fun c => cntL C0 q (p.st c r)) p.C) p.R := sN_in (fun r => sN (fun c => cntL C0 q (p.st c r)) p.C) hr
  have h3 := h.tot q hq
  unfold totP at h3
  omega
/-- The leaves of a pile with one place: each cell once. -/
structure OnceL (C0 R0 : Nat) (l : List Lf) : Prop where
  ok : ∀ x ∈ l, x.ok C0 R0
  one : ∀ q, q < R0 * C0 → cntL C0 q l = 1
theorem GoodP.once {C0 R0 : Nat} {p : Pl} (h : GoodP C0 R0 p) (hl : p.at_.length ≤ 1) : OnceL C0 R0 (p.at_.getD 0 []) := by
  have h1 := h.c1; have h2 := h.r1
  have h3 : p.R * p.C ≤ 1 := by have := h.len; omega
  have h4 : p.C = 1 := by
    have : 1 * p.C ≤ p.R * p.C := Nat.mul_le_mul_right _ h2
    omega
  have h5 : p.R = 1 := by rw [h4, Nat.mul_one] at h3; omega
  have e : p.at_.getD 0 [] = p.st 0 0 := by unfold Pl.st; simp
  rw [e]
  refine ⟨h.ok 0 0, fun q hq => ?_⟩
  have h6 := h.tot q hq
  unfold totP at h6
  rw [h4, h5] at h6
  simpa [sN] using h6
theorem OnceL.len {C0 R0 : Nat} {l : List Lf} (h : OnceL C0 R0 l) : l.length = R0 * C0 := by
  rw [len_sum (C0 := C0) (n := R0 * C0) l fun x hx => (h.ok x hx).lt]
  exact (sN_ext (g := fun _ => 1) fun q hq => h.one q hq).trans (sN_one _)
def Lf.zero : Lf := ⟨0, 0, 0, 0⟩
theorem cnt_at {C0 q : Nat} : ∀ (l : List Lf) (i : Nat), i < l.length → (l.getD i Lf.zero).ix C0 = (q : Int) → 1 ≤ cntL C0 q l ∧ (∀ j, j < l.length → j ≠ i → (l.getD j Lf.zero).ix C0 = (q : Int) → 2 ≤ cntL C0 q l)
  | [], i, hi, _ => absurd hi (by simp)
  | x :: l, 0, _, hq => by
    have e : x.ix C0 = (q : Int) := hq
    rw [cntL, if_pos e]
    refine ⟨by omega, fun j hj hne hq2 => ?_⟩
    obtain ⟨j, rfl⟩ : ∃ k, j = k + 1 := ⟨j - 1, by omega⟩
    have := (cnt_at l j (by simpa using hj) hq2).1
    omega
  | x :: l, i + 1, hi, hq => by
    have h1 := cnt_at l i (by simpa using hi) hq
    rw [cntL]
    refine ⟨by omega, fun j hj hne hq2 => ?_⟩
    cases j with
    | zero =>
      have e : x.ix C0 = (q : Int) := hq2
      rw [if_pos e]
      omega
    | succ j =>
      have := h1.2 j (by simpa using hj) (by omega) hq2
      omega
theorem getD_memL {l : List Lf} {i : Nat} (hi : i < l.length) : l.getD i Lf.zero ∈ l := by
  rw [List.getD_eq_getElem?_getD, List.getElem?_eq_getElem hi]
  exact List.getElem_mem hi
theorem OnceL.lt {C0 R0 : Nat} {l : List Lf} (h : OnceL C0 R0 l) {i : Nat} (hi : i < l.length) : 0 ≤ (l.getD i Lf.zero).ix C0 ∧ (l.getD i Lf.zero).ix C0 < ((R0 * C0 : Nat) : Int) := (h.ok _ (getD_memL hi)).lt
theorem OnceL.inj {C0 R0 : Nat} {l : List Lf} (h : OnceL C0 R0 l) {i j : Nat} (hi : i < l.length) (hj : j < l.length) (he : (l.getD i Lf.zero).ix C0 = (l.getD j Lf.zero).ix C0) : i = j := by
  have h1 := h.lt hi
  obtain ⟨q, hq⟩ : ∃ q : Nat, (l.getD i Lf.zero).ix C0 = (q : Int) := ⟨((l.getD i Lf.zero).ix C0).toNat, by omega⟩
  have h2 := h.one q (by omega)
  rcases Nat.decEq j i with hne | he2
  · have := (cnt_at l i hi hq).2 j hj hne (by rw [← he, hq])
    omega
  · exact he2.symm
theorem cnt_some {C0 q : Nat} : ∀ l : List Lf, 0 < cntL C0 q l → ∃ i, i < l.length ∧ (l.getD i Lf.zero).ix C0 = (q : Int)
  | [], h => by rw [cntL] at h; omega
  | x :: l, h => by
    by_cases hx : x.ix C0 = (q : Int)
    · exact ⟨0, by simp, hx⟩
    · rw [cntL, if_neg hx, Nat.zero_add] at h
      obtain ⟨i, hi, he⟩ := cnt_some l h
      exact ⟨i + 1, by simpa using hi, he⟩
theorem OnceL.at_ {C0 R0 : Nat} {l : List Lf} (h : OnceL C0 R0 l) {q : Nat} (hq : q < R0 * C0) : ∃ i, i < l.length ∧ (l.getD i Lf.zero).ix C0 = (q : Int) :=
  cnt_some l (by rw [h.one q hq]; omega)

/-- A cell of a scheme: its front, how it is turned, its back, how that is turned. -/
structure Cl where
  f : Int
  ft : Int
  b : Int
  bt : Int
def Cl.zero : Cl := ⟨0, 0, 0, 0⟩
def cellOf (i : Nat) (x : Lf) : Cl := if x.o = 1 then ⟨2 * (i : Int) + 2, x.u, 2 * (i : Int) + 1, x.u⟩ else ⟨2 * (i : Int) + 1, x.u, 2 * (i : Int) + 2, x.u⟩
/-- The cells behind i leaves. -/
def cellsTo (C0 n : Nat) (l : List Lf) : Nat → List Cl
  | 0 => List.replicate n Cl.zero
  | i + 1 => (cellsTo C0 n l i).set ((l.getD i Lf.zero).ix C0).toNat (cellOf i (l.getD i Lf.zero))
theorem cellsTo_len (C0 n : Nat) (l : List Lf) : ∀ i, (cellsTo C0 n l i).length = n
  | 0 => by simp [cellsTo]
  | i + 1 => by rw [cellsTo, List.length_set, cellsTo_len C0 n l i]
theorem cellsTo_at {C0 R0 : Nat} {l : List Lf} (h : OnceL C0 R0 l) : ∀ i, i ≤ l.length → ∀ j, j < i → (cellsTo C0 (R0 * C0) l i).getD ((l.getD j Lf.zero).ix C0).toNat Cl.zero = cellOf j (l.getD j Lf.zero)
  | 0, _, j, hj => absurd hj (by omega)
  | i + 1, hi, j, hj => by
    have h1 := h.lt (i := i) (by omega)
    have h2 := h.lt (i := j) (by omega)
    rw [cellsTo, List.getD_eq_getElem?_getD, List.getElem?_set]
    by_cases he : j = i
    · subst he
      rw [if_pos rfl, if_pos (by rw [cellsTo_len]; omega)]
      rfl
    · have hne : ¬ (l.getD i Lf.zero).ix C0 = (l.getD j Lf.zero).ix C0 := fun e => he (h.inj (by omega) (by omega) e).symm
      rw [if_neg (by omega), ← List.getD_eq_getElem?_getD]
      exact cellsTo_at h i (by omega) j (by omega)
/-- The scheme of a pile. -/
def cellsOf (C0 R0 : Nat) (l : List Lf) : List Cl := cellsTo C0 (R0 * C0) l l.length
theorem cellsOf_len (C0 R0 : Nat) (l : List Lf) : (cellsOf C0 R0 l).length = R0 * C0 := cellsTo_len _ _ _ _
theorem cellOf_is (i : Nat) (x : Lf) : (cellOf i x).ft = x.u ∧ (cellOf i x).bt = x.u ∧ (((cellOf i x).f = 2 * (i : Int) + 2 ∧ (cellOf i x).b = 2 * (i : Int) + 1) ∨ ((cellOf i x).f = 2 * (i : Int) + 1 ∧ (cellOf i x).b = 2 * (i : Int) + 2)) := by
  unfold cellOf
  split
  · exact ⟨rfl, rfl, .inl ⟨rfl, rfl⟩⟩
  · exact ⟨rfl, rfl, .inr ⟨rfl, rfl⟩⟩
/-- Cells that are right, one by one. -/
structure RightC (cs : List Cl) : Prop where
  rng : ∀ i, i < cs.length → 1 ≤ (cs.getD i Cl.zero).f ∧ (cs.getD i Cl.zero).f ≤ 2 * (cs.length : Int) ∧ 1 ≤ (cs.getD i Cl.zero).b ∧ (cs.getD i Cl.zero).b ≤ 2 * (cs.length : Int) ∧
    ((cs.getD i Cl.zero).ft = 0 ∨ (cs.getD i Cl.zero).ft = 1) ∧ ((cs.getD i Cl.zero).bt = 0 ∨ (cs.getD i Cl.zero).bt = 1) ∧ (cs.getD i Cl.zero).f ≠ (cs.getD i Cl.zero).b
  dup : ∀ i, i < cs.length → ∀ j, j < i → (cs.getD i Cl.zero).f ≠ (cs.getD j Cl.zero).f ∧ (cs.getD i Cl.zero).f ≠ (cs.getD j Cl.zero).b ∧ (cs.getD i Cl.zero).b ≠ (cs.getD j Cl.zero).f ∧ (cs.getD i Cl.zero).b ≠ (cs.getD j Cl.zero).b
theorem cells_right {C0 R0 : Nat} {l : List Lf} (h : OnceL C0 R0 l) : RightC (cellsOf C0 R0 l) := by
  have hlen := h.len
  have key : ∀ q, q < R0 * C0 → ∃ i, i < l.length ∧ (l.getD i Lf.zero).ix C0 = (q : Int) ∧ (cellsOf C0 R0 l).getD q Cl.zero = cellOf i (l.getD i Lf.zero) := fun q hq => by
    obtain ⟨i, hi, he⟩ := h.at_ hq
    refine ⟨i, hi, he, ?_⟩
    have := cellsTo_at h l.length (Nat.le_refl _) i hi
    rw [he, Int.toNat_natCast] at this
    exact this
  refine ⟨fun q hq => ?_, fun q hq p hp => ?_⟩
  · rw [cellsOf_len] at hq ⊢
    obtain ⟨i, hi, he, hc⟩ := key q hq
    rw [hc]
    obtain ⟨h1, h2, h3⟩ := cellOf_is i (l.getD i Lf.zero)
    obtain ⟨_, _, _, _, h5, h6⟩ := h.ok _ (getD_memL hi)
    rw [h1, h2]
    omega
  · rw [cellsOf_len] at hq
    obtain ⟨i, hi, he, hc⟩ := key q hq
    obtain ⟨j, hj, he2, hc2⟩ := key p (by omega)
    have hne : i ≠ j := fun e => by subst e; omega
    rw [hc, hc2]
    obtain ⟨_, _, h3⟩ := cellOf_is i (l.getD i Lf.zero)
    obtain ⟨_, _, h4⟩ := cellOf_is j (l.getD j Lf.zero)
    omega
/-- What a leaf of the pile shows: its two pages, upright. -/
theorem cells_read {C0 R0 : Nat} {l : List Lf} (h : OnceL C0 R0 l) {i : Nat} (hi : i < l.length) :
    (cellsOf C0 R0 l).getD ((l.getD i Lf.zero).ix C0).toNat Cl.zero = cellOf i (l.getD i Lf.zero) := cellsTo_at h l.length (Nat.le_refl _) i hi

/-- The pile behind i folds. -/
def pileTo (p : Pl) (fs : List (Int × Int)) : Nat → Pl
  | 0 => p
  | i + 1 => foldP (pileTo p fs i) (fs.getD i (0, 0)).1 (fs.getD i (0, 0)).2
/-- Columns and rows behind i folds. -/
def sideTo (C R : Nat) (fs : List (Int × Int)) : Nat → Nat × Nat
  | 0 => (C, R)
  | i + 1 => (foldC (sideTo C R fs i).1 (fs.getD i (0, 0)).1 (fs.getD i (0, 0)).2, foldR (sideTo C R fs i).2 (fs.getD i (0, 0)).1 (fs.getD i (0, 0)).2)
/-- The error of the fold i. -/
def errAt (C R : Nat) (fs : List (Int × Int)) (i : Nat) : Int := foldE (sideTo C R fs i).1 (sideTo C R fs i).2 (fs.getD i (0, 0)).1 (fs.getD i (0, 0)).2
theorem pile_good {C R : Nat} (hc : 1 ≤ C) (hr : 1 ≤ R) (h8 : C ≤ 8) (h9 : R ≤ 8) (fs : List (Int × Int)) : ∀ i, (∀ j, j < i → errAt C R fs j = 0) → GoodP C R (pileTo (flatP C R) fs i) ∧ (pileTo (flatP C R) fs i).C = (sideTo C R fs i).1 ∧ (pileTo (flatP C R) fs i).R = (sideTo C R fs i).2
  | 0, _ => ⟨GoodP.flat hc hr h8 h9, rfl, rfl⟩
  | i + 1, h => by
    obtain ⟨h1, h2, h3⟩ := pile_good hc hr h8 h9 fs i fun j hj => h j (by omega)
    have h4 := h i (by omega)
    unfold errAt at h4
    rw [← h2, ← h3] at h4
    have h5 := h1.fold h4
    rw [pileTo, sideTo, ← h2, ← h3]
    exact h5
end Go.Proofs.Ytniiahddpdiocaa
