/-
  Plain law of folded sheets: piles as data, each cell stands once in a pile.
-/
import Derived.Lib.Walk
namespace Go.Proofs.Ytniiahddpdiocaa

/-- A leaf: its column, its row, whether it lies over and whether it is turned round. -/
structure Lf where
  c : Int
  r : Int
  o : Int
  u : Int
/-- Sums. -/
def sN (f : Nat → Nat) : Nat → Nat
  | 0 => 0
  | n + 1 => sN f n + f n
theorem sN_ext {f g : Nat → Nat} : ∀ {n : Nat}, (∀ i, i < n → f i = g i) → sN f n = sN g n
  | 0, _ => rfl
  | n + 1, h => by rw [sN, sN, sN_ext fun i hi => h i (by omega), h n (by omega)]
theorem sN_add (f g : Nat → Nat) : ∀ n : Nat, sN (fun i => f i + g i) n = sN f n + sN g n
  | 0 => rfl
  | n + 1 => by rw [sN, sN, sN, sN_add f g n]; omega
theorem sN_cut (f : Nat → Nat) (a : Nat) : ∀ b : Nat, sN f (a + b) = sN f a + sN (fun i => f (a + i)) b
  | 0 => by simp [sN]
  | b + 1 => by rw [← Nat.add_assoc, sN, sN, sN_cut f a b]; omega
theorem sN_first (f : Nat → Nat) : ∀ n : Nat, sN f (n + 1) = f 0 + sN (fun i => f (i + 1)) n
  | 0 => by simp [sN]
  | n + 1 => by rw [sN, sN_first f n, sN]; omega
theorem sN_turn : ∀ (n : Nat) (f : Nat → Nat), sN (fun i => f (n - 1 - i)) n = sN f n
  | 0, _ => rfl
  | n + 1, f => by
    rw [sN_first, sN, ← sN_turn n f]
    have e : sN (fun i => f (n + 1 - 1 - (i + 1))) n = sN (fun i => f (n - 1 - i)) n := sN_ext fun i hi => by congr 1; omega
    rw [e]
    simp
    omega
theorem sN_zero : ∀ n : Nat, sN (fun _ => 0) n = 0
  | 0 => rfl
  | n + 1 => by rw [sN, sN_zero n]
/-- What is laid over: the stacks behind the first ones come over them, seen from the fold. -/
theorem sN_laid (f : Nat → Nat) {first side : Nat} (h1 : first ≤ side) (h2 : side ≤ 2 * first) : sN (fun c => (if 2 * first - 1 - c < side then f (2 * first - 1 - c) else 0) + f c) first = sN f side := by
  rw [sN_add]
  obtain ⟨d, rfl⟩ : ∃ d, side = first + d := ⟨side - first, by omega⟩
  rw [sN_cut f first d, Nat.add_comm]
  congr 1
  rw [← sN_turn first]
  obtain ⟨k, rfl⟩ : ∃ k, first = d + k := ⟨first - d, by omega⟩
  rw [sN_cut _ d k]
  have e2 : sN (fun i => if 2 * (d + k) - 1 - (d + k - 1 - (d + i)) < d + k + d then f (2 * (d + k) - 1 - (d + k - 1 - (d + i))) else 0) k = 0 := by
    refine (sN_ext (g := fun _ => 0) fun i hi => ?_).trans (sN_zero k)
    rw [if_neg (by omega)]
  rw [e2, Nat.add_zero]
  refine sN_ext fun i hi => ?_
  rw [if_pos (by omega)]
  congr 1
  omega

/-- How often a cell stands in a list of leaves. -/
def Lf.ix (x : Lf) (C0 : Nat) : Int := x.r * (C0 : Int) + x.c
def cntL (C0 : Nat) (q : Nat) : List Lf → Nat
  | [] => 0
  | x :: l => (if x.ix C0 = (q : Int) then 1 else 0) + cntL C0 q l
theorem cntL_app (C0 q : Nat) : ∀ a b : List Lf, cntL C0 q (a ++ b) = cntL C0 q a + cntL C0 q b
  | [], b => by simp [cntL]
  | x :: a, b => by rw [List.cons_append, cntL, cntL, cntL_app C0 q a b]; omega
theorem cntL_map (C0 q : Nat) {g : Lf → Lf} (hg : ∀ x, (g x).ix C0 = x.ix C0) : ∀ l : List Lf, cntL C0 q (l.map g) = cntL C0 q l
  | [] => rfl
  | x :: l => by rw [List.map_cons, cntL, cntL, hg, cntL_map C0 q hg l]
theorem cntL_rev (C0 q : Nat) : ∀ l : List Lf, cntL C0 q l.reverse = cntL C0 q l
  | [] => rfl
  | x :: l => by rw [List.reverse_cons, cntL_app, cntL_rev C0 q l, cntL, cntL, cntL]; omega

/-- A pile: its columns, its rows, and at each place the leaves from the top. -/
structure Pl where
  C : Nat
  R : Nat
  at_ : List (List Lf)
def gridL (C n : Nat) (g : Nat → Nat → List Lf) : List (List Lf) := (List.range n).map fun k => g (k % C) (k / C)
theorem gridL_len (C n : Nat) (g : Nat → Nat → List Lf) : (gridL C n g).length = n := by unfold gridL; simp
theorem gridL_next (C r c : Nat) (g : Nat → Nat → List Lf) (h : c < C) : gridL C (r * C + c + 1) g = gridL C (r * C + c) g ++ [g c r] := by
  unfold gridL
  rw [List.range_succ, List.map_append]
  have e1 : (r * C + c) % C = c := by rw [Nat.mul_comm, Nat.mul_add_mod, Nat.mod_eq_of_lt h]
  have e2 : (r * C + c) / C = r := by rw [Nat.mul_comm, Nat.mul_add_div (by omega), Nat.div_eq_of_lt h, Nat.add_zero]
  simp [e1, e2]
theorem grid_lt {C R c r : Nat} (hc : c < C) (hr : r < R) : r * C + c < R * C := by
  have : (r + 1) * C ≤ R * C := Nat.mul_le_mul_right C hr
  rw [Nat.add_mul] at this
  omega
theorem gridL_at {C R c r : Nat} (g : Nat → Nat → List Lf) (hc : c < C) (hr : r < R) : (gridL C (R * C) g).getD (r * C + c) [] = g c r := by
  have hl := grid_lt hc hr
  have e1 : (r * C + c) % C = c := by rw [Nat.mul_comm, Nat.mul_add_mod, Nat.mod_eq_of_lt hc]
  have e2 : (r * C + c) / C = r := by rw [Nat.mul_comm, Nat.mul_add_div (by omega), Nat.div_eq_of_lt hc, Nat.add_zero]
  unfold gridL
  rw [List.getD_eq_getElem?_getD, List.getElem?_map, List.getElem?_range hl]
  simp [e1, e2]
def mkP (C R : Nat) (g : Nat → Nat → List Lf) : Pl := ⟨C, R, gridL C (R * C) g⟩
def Pl.st (p : Pl) (c r : Nat) : List Lf := p.at_.getD (r * p.C + c) []
theorem mkP_st {C R c r : Nat} (g : Nat → Nat → List Lf) (hc : c < C) (hr : r < R) : (mkP C R g).st c r = g c r := gridL_at g hc hr

/-- A leaf that is turned over, and round. -/
def Lf.flip (x : Lf) (round : Bool) : Lf := ⟨x.c, x.r, 1 - x.o, if round then 1 - x.u else x.u⟩
def Lf.about (x : Lf) : Lf := ⟨x.c, x.r, x.o, 1 - x.u⟩
def turnedP (l : List Lf) (round : Bool) : List Lf := l.reverse.map (·.flip round)
def flatP (C R : Nat) : Pl := mkP C R fun c r => [⟨c, r, 0, 0⟩]
def overP (p : Pl) : Pl := mkP p.C p.R fun c r => turnedP (p.st (p.C - 1 - c) r) false
def roundP (p : Pl) : Pl := mkP p.C p.R fun c r => (p.st (p.C - 1 - c) (p.R - 1 - r)).map Lf.about
/-- The stack at a place along the side, counted from the end towards which it is folded. -/
def Pl.get (p : Pl) (rows back : Bool) (along across : Nat) : List Lf :=
  let a := if back then (if rows then p.R else p.C) - 1 - along else along
  if rows then p.st across a else p.st a across
def Pl.put (p : Pl) (first : Nat) (rows back : Bool) (along across : Nat) : List Lf :=
  let a := if back then first - 1 - along else along
  if 2 * first - 1 - a < (if rows then p.R else p.C) then turnedP (p.get rows back (2 * first - 1 - a) across) rows ++ p.get rows back a across else p.get rows back a across
def laidP (p : Pl) (first : Nat) (rows back : Bool) : Pl :=
  if rows then mkP p.C first (fun c r => p.put first rows back r c) else mkP first p.R (p.put first rows back)

/-- All places' leaves. -/
def totP (C0 q : Nat) (p : Pl) : Nat := sN (fun r => sN (fun c => cntL C0 q (p.st c r)) p.C) p.R
theorem sN_swap (f : Nat → Nat → Nat) (n : Nat) : ∀ m : Nat, sN (fun i => sN (fun j => f i j) n) m = sN (fun j => sN (fun i => f i j) m) n
  | 0 => by
    rw [sN]
    exact (sN_zero n).symm
  | m + 1 => by
    rw [sN, sN_swap f n m, ← sN_add]
    exact sN_ext fun j hj => by rw [sN]
theorem flip_ix (x : Lf) (round : Bool) (C0 : Nat) : (x.flip round).ix C0 = x.ix C0 := rfl
theorem about_ix (x : Lf) (C0 : Nat) : x.about.ix C0 = x.ix C0 := rfl
theorem cnt_turned (C0 q : Nat) (l : List Lf) (round : Bool) : cntL C0 q (turnedP l round) = cntL C0 q l := by
  unfold turnedP; rw [cntL_map C0 q (fun x => flip_ix x round C0), cntL_rev]
theorem tot_mk (C0 q C R : Nat) (g : Nat → Nat → List Lf) : totP C0 q (mkP C R g) = sN (fun r => sN (fun c => cntL C0 q (g c r)) C) R :=
  sN_ext fun r hr => sN_ext fun c hc => by
    have e := mkP_st (C := C) (R := R) g hc hr
    exact congrArg (cntL C0 q) e
theorem tot_over (C0 q : Nat) (p : Pl) : totP C0 q (overP p) = totP C0 q p := by
  unfold overP
  rw [tot_mk]
  refine sN_ext fun r hr => ?_
  exact (sN_ext fun c hc => cnt_turned _ _ _ _).trans (sN_turn p.C fun c => cntL C0 q (p.st c r))
theorem tot_round (C0 q : Nat) (p : Pl) : totP C0 q (roundP p) = totP C0 q p := by
  unfold roundP
  rw [tot_mk]
  refine (sN_ext fun r hr => ?_).trans (sN_turn p.R fun r => sN (fun c => cntL C0 q (p.st c r)) p.C)
  exact (sN_ext fun c hc => cntL_map _ _ (fun x => about_ix x C0) _).trans (sN_turn p.C fun c => cntL C0 q (p.st c (p.R - 1 - r)))
theorem cnt_put (C0 q : Nat) (p : Pl) (first : Nat) (rows back : Bool) (along across : Nat) : cntL C0 q (p.put first rows back along across) =
    (if 2 * first - 1 - (if back then first - 1 - along else along) < (if rows then p.R else p.C) then cntL C0 q (p.get rows back (2 * first - 1 - (if back then first - 1 - along else along)) across) else 0) + cntL C0 q (p.get rows back (if back then first - 1 - along else along) across) := by
  unfold Pl.put
  generalize (if back then first - 1 - along else along) = a
  by_cases h : 2 * first - 1 - a < (if rows then p.R else p.C)
  · simp only [if_pos h]; rw [cntL_app, cnt_turned]
  · simp only [if_neg h]; rw [Nat.zero_add]
/-- A row of places that is laid over keeps its leaves. -/
theorem sum_put (C0 q : Nat) (p : Pl) (first : Nat) (rows back : Bool) (across : Nat) (h1 : first ≤ (if rows then p.R else p.C)) (h2 : (if rows then p.R else p.C) ≤ 2 * first) :
    sN (fun a => cntL C0 q (p.put first rows back a across)) first = sN (fun a => cntL C0 q (if rows then p.st across a else p.st a across)) (if rows then p.R else p.C) := by
  have e0 := sN_laid (fun a => cntL C0 q (p.get rows back a across)) h1 h2
  have e1 : sN (fun a => cntL C0 q (p.put first rows back a across)) first = sN (fun c => (if 2 * first - 1 - c < (if rows then p.R else p.C) then cntL C0 q (p.get rows back (2 * first - 1 - c) across) else 0) + cntL C0 q (p.get rows back c across)) first := by
    cases back with
    | false => exact sN_ext fun a ha => cnt_put _ _ _ _ _ _ _ _
    | true =>
      rw [← sN_turn first]
      refine sN_ext fun a ha => ?_
      rw [cnt_put]
      have : first - 1 - (first - 1 - a) = a := by omega
      simp only [if_true, this]
  rw [e1, e0]
  cases back with
  | false => exact sN_ext fun a ha => rfl
  | true =>
    rw [← sN_turn]
    refine sN_ext fun a ha => ?_
    unfold Pl.get
    have : (if rows then p.R else p.C) - 1 - ((if rows then p.R else p.C) - 1 - a) = a := by omega
    simp only [if_true, this]
theorem tot_laid (C0 q : Nat) (p : Pl) (first : Nat) (rows back : Bool) (h1 : first ≤ (if rows then p.R else p.C)) (h2 : (if rows then p.R else p.C) ≤ 2 * first) : totP C0 q (laidP p first rows back) = totP C0 q p := by
  unfold laidP
  cases rows with
  | true =>
    rw [if_pos rfl, tot_mk]
    unfold totP
    rw [sN_swap, sN_swap (fun r c => cntL C0 q (p.st c r))]
    refine sN_ext fun c hc => ?_
    rw [sum_put C0 q p first true back c h1 h2]
    rfl
  | false =>
    rw [if_neg (by simp), tot_mk]
    refine sN_ext fun r hr => ?_
    rw [sum_put C0 q p first false back r h1 h2]
    rfl
theorem tot_flat {C R q : Nat} (hq : q < R * C) : totP C q (flatP C R) = 1 := by
  unfold flatP
  rw [tot_mk]
  have h1 : ∀ r n : Nat, n ≤ C → sN (fun c => cntL C q [⟨(c : Int), (r : Int), 0, 0⟩]) n = if r * C ≤ q ∧ q < r * C + n then 1 else 0 := by
    intro r n
    induction n with
    | zero => intro _; rw [sN, if_neg (by omega)]
    | succ n ih =>
      intro hn
      rw [sN, ih (by omega), cntL, cntL]
      have e : (Lf.ix ⟨(n : Int), (r : Int), 0, 0⟩ C = (q : Int)) ↔ r * C + n = q := by
        show (r : Int) * (C : Int) + (n : Int) = (q : Int) ↔ _
        constructor
        · intro h; exact_mod_cast h
        · intro h; exact_mod_cast h
      by_cases h9 : r * C + n = q
      · rw [if_pos (e.2 h9), if_neg (by omega), if_pos (by omega)]
      · rw [if_neg (mt e.1 h9)]
        by_cases h8 : r * C ≤ q ∧ q < r * C + n
        · rw [if_pos h8, if_pos (by omega)]
        · rw [if_neg h8, if_neg (by omega)]
  have h2 : ∀ n : Nat, sN (fun r => sN (fun c => cntL C q [⟨(c : Int), (r : Int), 0, 0⟩]) C) n = if q < n * C then 1 else 0 := by
    intro n
    induction n with
    | zero => rw [sN, if_neg (by omega)]
    | succ n ih =>
      rw [sN, ih, h1 n C (Nat.le_refl _), Nat.add_mul, Nat.one_mul]
      by_cases h9 : q < n * C
      · rw [if_pos h9, if_neg (by omega), if_pos (by omega)]
      · rw [if_neg h9]
        by_cases h8 : q < n * C + C
        · rw [if_pos (by omega), if_pos h8]
        · rw [if_neg (by omega), if_neg h8]
  rw [h2, if_pos hq]
end Go.Proofs.Ytniiahddpdiocaa
