/-
  Plain law: a case parted by several needs and joined again is the case, and its metal is that of all parts together.
-/
import Derived.Test.YtaopcpfgmjpliaaDoorOpen
namespace Go.Proofs.YtaopcpfgmjpliaaDoor.parted
open Go.RowKit

theorem err2_ok {f : FT} {xs ys : List Int} (hc : (chk f).2 = 0) (h1 : countsErr f xs = 0) (h2 : countsErr f ys = 0) : caseErr2 f xs ys = 0 := case2_of (case_of hc h1) h2
theorem idx_neg {zs : List Int} : idxOf neg zs zs.length = none ↔ ∀ k, k < zs.length → 0 ≤ zs.getD k 0 := by
  constructor
  · intro h k hk
    rcases Int.lt_or_le (zs.getD k 0) 0 with hn | hn
    · have : (idxOf neg zs zs.length).isSome = true := (idxOf_isSome _ _ _).2 ⟨k, hk, by unfold neg; simpa using hn⟩
      rw [h] at this; cases this
    · exact hn
  · intro h
    exact idxOf_none fun k hk => by have := h k hk; unfold neg; rw [decide_eq_false_iff_not]; omega
theorem take_cases {f : FT} {xs ys : List Int} (h : caseErr2 f xs ys = 0) :
    (takeR f xs ys = (zipK (· - ·) xs ys, 0, 0) ∧ ∀ k, k < xs.length → ys.getD k 0 ≤ xs.getD k 0) ∨ ∃ kk : Nat, takeR f xs ys = ([], (kk : Int), 20) := by
  unfold takeR
  rw [if_neg (by rw [h]; simp)]
  cases hi : idxOf neg (zipK (· - ·) xs ys) (zipK (· - ·) xs ys).length with
  | none =>
    refine .inl ⟨rfl, fun k hk => ?_⟩
    have := idx_neg.1 hi k (by rw [zipK_len]; exact hk)
    rw [zipK_at _ _ _ _ hk] at this
    omega
  | some k => exact .inr ⟨k, rfl⟩
theorem take_all {f : FT} {xs ys : List Int} (h : caseErr2 f xs ys = 0) (ha : ∀ k, k < xs.length → ys.getD k 0 ≤ xs.getD k 0) : takeR f xs ys = (zipK (· - ·) xs ys, 0, 0) := by
  unfold takeR
  rw [if_neg (by rw [h]; simp), idx_neg.2 (fun k hk => by rw [zipK_len] at hk; rw [zipK_at _ _ _ _ hk]; have := ha k hk; omega)]
theorem lack_ok {f : FT} {xs ys : List Int} (h : caseErr2 f xs ys = 0) : lackR f xs ys = (zipK lacksI xs ys, 0) := by unfold lackR; rw [if_neg (by rw [h]; simp)]
theorem join_cases {f : FT} {xs ys : List Int} (h : caseErr2 f xs ys = 0) (hn : 1 ≤ xs.length) :
    joinR f xs ys = ([], 8) ∨ (joinR f xs ys = (zipK (· + ·) xs ys, 0) ∧ ∀ k, k < xs.length → xs.getD k 0 + ys.getD k 0 ≤ 1000000) := by
  unfold joinR
  rw [if_neg (by rw [h]; simp)]
  by_cases hm : 1000000 < maxTo (zipK (· + ·) xs ys) (zipK (· + ·) xs ys).length
  · exact .inl (by rw [if_pos hm])
  · refine .inr ⟨by rw [if_neg hm], fun k hk => ?_⟩
    rcases Int.lt_or_le 1000000 (xs.getD k 0 + ys.getD k 0) with hb | hb
    · exact absurd ((maxTo_gt _ _ _ (by rw [zipK_len]; exact hn)).2 ⟨k, by rw [zipK_len]; exact hk, by rw [zipK_at _ _ _ _ hk]; exact hb⟩) hm
    · exact hb
theorem join_all {f : FT} {xs ys : List Int} (h : caseErr2 f xs ys = 0) (hn : 1 ≤ xs.length) (ha : ∀ k, k < xs.length → xs.getD k 0 + ys.getD k 0 ≤ 1000000) : joinR f xs ys = (zipK (· + ·) xs ys, 0) := by
  unfold joinR
  rw [if_neg (by rw [h]; simp), if_neg]
  intro hm
  obtain ⟨k, hk, hb⟩ := (maxTo_gt _ _ _ (by rw [zipK_len]; exact hn)).1 hm
  rw [zipK_len] at hk
  rw [zipK_at _ _ _ _ hk] at hb
  have := ha k hk
  omega

theorem metal_minus (ss : List TS) (xs ys : List Int) (body : Int) : ∀ n, n ≤ xs.length → metalTo ss (zipK (· - ·) xs ys) body n + metalTo ss ys body n = metalTo ss xs body n
  | 0, _ => rfl
  | n + 1, h => by
    have ih := metal_minus ss xs ys body n (by omega)
    unfold metalTo at ih ⊢
    rw [sumTo, sumTo, sumTo, zipK_at _ _ _ _ (by omega), ← ih, Int.sub_mul, Int.sub_mul]
    omega

def col : List SI → Nat → Int
  | [], _ => 0
  | s :: t, k => s.zs.getD k 0 + col t k
theorem col_append (a b : List SI) (k : Nat) : col (a ++ b) k = col a k + col b k := by
  induction a with
  | nil => simp [col]
  | cons s t ih => simp only [List.cons_append, col, ih]; omega
theorem col_nonneg {tk : List SI} {k : Nat} (h : ∀ s ∈ tk, 0 ≤ s.zs.getD k 0) : 0 ≤ col tk k := by
  induction tk with
  | nil => simp [col]
  | cons s t ih => have h1 := h s (by simp); have h2 := ih (fun x hx => h x (by simp [hx])); simp only [col]; omega

/-- What the parting keeps. -/
structure PInv (f : FT) (xs ls : List Int) (tk : List SI) (m : Int) : Prop where
  len : ls.length = f.sorts.length
  sum : ∀ k, k < f.sorts.length → 0 ≤ ls.getD k 0 ∧ ls.getD k 0 + col tk k = xs.getD k 0
  good : ∀ s ∈ tk, countsErr f s.zs = 0
  met : metalR f ls + m = metalR f xs
section
variable {f : FT} {xs ls : List Int} {tk : List SI} {m : Int}
theorem PInv.start (h : countsErr f xs = 0) : PInv f xs xs [] 0 := by
  obtain ⟨l, b⟩ := counts_zero h
  exact ⟨l, fun k hk => ⟨(b k (by omega)).1, by simp [col]⟩, fun s hs => (by cases hs), by omega⟩
theorem good_col {tk : List SI} (h : ∀ s ∈ tk, countsErr f s.zs = 0) (k : Nat) (hk : k < f.sorts.length) : 0 ≤ col tk k :=
  col_nonneg fun s hs => by obtain ⟨l, b⟩ := counts_zero (h s hs); exact (b k (by omega)).1
theorem PInv.counts (h : PInv f xs ls tk m) (hx : countsErr f xs = 0) : countsErr f ls = 0 := by
  obtain ⟨l, b⟩ := counts_zero hx
  have hl := h.len
  refine counts_of hl fun k hk => ?_
  have h1 := h.sum k (by omega); have h2 := good_col h.good k (by omega); have h3 := b k (by omega)
  omega
theorem PInv.take (h : PInv f xs ls tk m) {s : SI} (hs : countsErr f s.zs = 0) (ha : ∀ k, k < ls.length → s.zs.getD k 0 ≤ ls.getD k 0) :
    PInv f xs (zipK (· - ·) ls s.zs) (tk ++ [s]) (m + metalR f s.zs) := by
  have hl := h.len
  refine ⟨by rw [zipK_len]; exact hl, fun k hk => ?_, fun x hx => ?_, ?_⟩
  · have h1 := h.sum k hk; have h2 := ha k (by omega)
    rw [zipK_at _ _ _ _ (by omega), col_append]
    simp only [col]; omega
  · rcases List.mem_append.1 hx with h1 | h1
    · exact h.good x h1
    · rw [List.mem_singleton.1 h1]; exact hs
  · have h1 := h.met
    have h2 := metal_minus f.sorts ls s.zs f.body f.sorts.length (by omega)
    unfold metalR at h1 ⊢
    omega
theorem metal_bd {cs : List Int} (h1 : (chk f).2 = 0) (h2 : countsErr f cs = 0) : 0 ≤ metalR f cs ∧ metalR f cs ≤ 1728000000000000 := (MetalOk.of h1 h2).bd _ (Nat.le_refl _)
theorem PInv.bd (h : PInv f xs ls tk m) (hc : (chk f).2 = 0) (hx : countsErr f xs = 0) : 0 ≤ metalR f ls ∧ metalR f ls ≤ 1728000000000000 ∧ m ≤ 1728000000000000 ∧ -1728000000000000 ≤ m := by
  have h1 := metal_bd hc hx; have h2 := metal_bd hc (h.counts hx); have h3 := h.met
  omega

/-- What the joining keeps. -/
structure BInv (f : FT) (xs ls : List Int) (tk : List SI) (j : Nat) : Prop where
  len : ls.length = f.sorts.length
  sum : ∀ k, k < f.sorts.length → 0 ≤ ls.getD k 0 ∧ ls.getD k 0 + col (tk.take j) k = xs.getD k 0
theorem PInv.back (h : PInv f xs ls tk m) : BInv f xs ls tk tk.length := ⟨h.len, fun k hk => by rw [List.take_length]; exact h.sum k hk⟩
theorem take_next (tk : List SI) (i : Nat) (h : i < tk.length) : tk.take (i + 1) = tk.take i ++ [tk.getD i SI.none_] := by
  rw [List.take_succ_eq_append_getElem h, List.getD_eq_getElem?_getD, List.getElem?_eq_getElem h]; rfl
theorem getD_mem (tk : List SI) (i : Nat) (h : i < tk.length) : tk.getD i SI.none_ ∈ tk := by
  rw [List.getD_eq_getElem?_getD, List.getElem?_eq_getElem h]; exact List.getElem_mem h
theorem BInv.join {i : Nat} (h : BInv f xs ls tk (i + 1)) (hi : i < tk.length) (hc : (chk f).2 = 0) (hx : countsErr f xs = 0) (good : ∀ s ∈ tk, countsErr f s.zs = 0) :
    joinR f ls (tk.getD i SI.none_).zs = (zipK (· + ·) ls (tk.getD i SI.none_).zs, 0) ∧ BInv f xs (zipK (· + ·) ls (tk.getD i SI.none_).zs) tk i := by
  obtain ⟨lx, bx⟩ := counts_zero hx
  obtain ⟨_, hn, _, _⟩ := chk_zero hc
  have gs := good _ (getD_mem tk i hi)
  obtain ⟨l2, b2⟩ := counts_zero gs
  have hl := h.len
  have key : ∀ k, k < f.sorts.length → 0 ≤ ls.getD k 0 ∧ 0 ≤ (tk.getD i SI.none_).zs.getD k 0 ∧ 0 ≤ col (tk.take i) k ∧ ls.getD k 0 + (tk.getD i SI.none_).zs.getD k 0 + col (tk.take i) k = xs.getD k 0 ∧ xs.getD k 0 ≤ 1000000 := fun k hk => by
    have h1 := h.sum k hk
    rw [take_next tk i hi, col_append] at h1
    simp only [col] at h1
    have h2 := good_col (fun s hs => good s (List.mem_of_mem_take hs)) (tk := tk.take i) k hk
    have h3 := b2 k (by omega); have h4 := bx k (by omega)
    omega
  have hls : countsErr f ls = 0 := counts_of hl fun k hk => by have := key k (by omega); omega
  refine ⟨join_all (err2_ok hc hls gs) (by omega) fun k hk => by have := key k (by omega); omega, by rw [zipK_len]; exact hl, fun k hk => ?_⟩
  have := key k hk
  rw [zipK_at _ _ _ _ (by omega)]
  omega
theorem BInv.done (h : BInv f xs ls tk 0) (hx : countsErr f xs = 0) : ls = xs := by
  obtain ⟨lx, _⟩ := counts_zero hx
  refine list_ext_getD (by rw [h.len, lx]) fun k hk => ?_
  have := (h.sum k (by rw [← h.len]; exact hk)).2
  simp [col] at this
  simpa using this
theorem rich_ok {zs : List Int} (hc : (chk f).2 = 0) (hl : countsErr f ls = 0) (hz : countsErr f zs = 0) (ha : ∀ k, k < ls.length → ls.getD k 0 + (zipK lacksI ls zs).getD k 0 ≤ 1000000) :
    takeR f (zipK (· + ·) ls (zipK lacksI ls zs)) zs = (zipK (· - ·) (zipK (· + ·) ls (zipK lacksI ls zs)) zs, 0, 0) := by
  obtain ⟨l1, b1⟩ := counts_zero hl
  obtain ⟨l2, b2⟩ := counts_zero hz
  have key : ∀ k, k < ls.length → (zipK (· + ·) ls (zipK lacksI ls zs)).getD k 0 = ls.getD k 0 + max 0 (zs.getD k 0 - ls.getD k 0) ∧ ls.getD k 0 + max 0 (zs.getD k 0 - ls.getD k 0) ≤ 1000000 := fun k hk => by
    have := ha k hk
    rw [zipK_at _ _ _ _ hk] at this ⊢
    rw [zipK_at _ _ _ _ hk]
    exact ⟨rfl, by unfold lacksI at this; omega⟩
  have hr : countsErr f (zipK (· + ·) ls (zipK lacksI ls zs)) = 0 := counts_of (by rw [zipK_len]; exact l1) fun k hk => by
    rw [zipK_len] at hk
    have h1 := key k hk; have h2 := b1 k hk
    omega
  refine take_all (err2_ok hc hr hz) fun k hk => ?_
  rw [zipK_len] at hk
  have h1 := key k hk
  omega
theorem lack_counts {zs : List Int} (hl : countsErr f ls = 0) (hz : countsErr f zs = 0) : countsErr f (zipK lacksI ls zs) = 0 := by
  obtain ⟨l1, b1⟩ := counts_zero hl
  obtain ⟨l2, b2⟩ := counts_zero hz
  refine counts_of (by rw [zipK_len]; exact l1) fun k hk => ?_
  rw [zipK_len] at hk
  have h1 := b1 k hk; have h2 := b2 k (by omega)
  rw [zipK_at _ _ _ _ hk]; unfold lacksI; omega
end
end Go.Proofs.YtaopcpfgmjpliaaDoor.parted
