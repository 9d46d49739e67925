/-
  Plain law: a bill, cast as often as it can be; cases of many bills suffice as often as the bills.
-/
import Derived.Test.YtphkffndhifdkaaBill
import Derived.Test.YtphkffndhifdkaaTopCast
import Derived.Test.YtphkffndhifdkaaTimesLaw
namespace Go.Proofs.Ytphkffndhifdkaa.casts
open Go.RowKit

/-- What is known of a bill of a right need. -/
structure BillOk (f : FT) (ns bl : List Int) (size : Int) : Prop where
  len : bl.length = f.sorts.length
  few : f.sorts.length ≤ 120
  nn : ∀ k, k < f.sorts.length → 0 ≤ bl.getD k 0 ∧ bl.getD k 0 ≤ size
  sum : sumZ bl bl.length = size
theorem BillOk.of {f : FT} {ns : List Int} {size : Int} (hc : caseErr f ns = 0) (hs : 0 ≤ size) (h0 : sumZ ns ns.length ≠ 0) : BillOk f ns (billL size ns) size := by
  obtain ⟨h1, h2⟩ := case_zero hc
  obtain ⟨_, _, h5, _⟩ := chk_zero h1
  obtain ⟨l, b⟩ := counts_zero h2
  have hl := billL_len size ns
  have hsum := (sumTo_bd (fun k => ns.getD k 0) 1000000 ns.length b).1
  obtain ⟨e1, e2⟩ := billL_sum (total := size) (ns := ns) (by unfold sumZ at h0 ⊢; omega) hs (fun k hk => (b k hk).1)
  refine ⟨by omega, h5, fun k hk => ⟨e2 k (by omega), ?_⟩, by rw [hl]; exact e1⟩
  have := sumTo_one (fun k => (billL size ns).getD k 0) ns.length e2 k (by omega)
  unfold sumZ at e1
  omega
theorem BillOk.counts {f : FT} {ns bl : List Int} {size : Int} (h : BillOk f ns bl size) (hs : size ≤ 1000000) : countsErr f bl = 0 :=
  counts_of h.len fun k hk => by have := h.nn k (by rw [← h.len]; exact hk); omega
theorem sumTo_le {g h : Nat → Int} : ∀ n, (∀ k, k < n → g k ≤ h k) → sumTo g n ≤ sumTo h n
  | 0, _ => Int.le_refl _
  | n + 1, e => by rw [sumTo, sumTo]; have := sumTo_le n (fun k hk => e k (by omega)); have := e n (by omega); omega
theorem BillOk.metal {f : FT} {ns bl : List Int} {size : Int} (h : BillOk f ns bl size) (hc : (chk f).2 = 0) (hs : size ≤ 1000000) : size ≤ metalR f bl ∧ metalR f bl ≤ 14400000 * size := by
  have ok := MetalOk.of hc (h.counts hs)
  have hsum := h.sum
  rw [h.len] at hsum
  have key : ∀ k, k < f.sorts.length → bl.getD k 0 ≤ bl.getD k 0 * (f.sorts.getD k TS.zero).width * f.body ∧ bl.getD k 0 * (f.sorts.getD k TS.zero).width * f.body ≤ 14400000 * bl.getD k 0 := fun k hk => by
    have w1 := ok.wid k hk
    have b1 := ok.body
    have n1 := (h.nn k hk).1
    generalize bl.getD k 0 = x at *
    generalize (f.sorts.getD k TS.zero).width = y at *
    generalize f.body = z at *
    have p1 : x * 1 ≤ x * y := Int.mul_le_mul_of_nonneg_left w1.1 n1
    have p2 : x * y ≤ x * 100000 := Int.mul_le_mul_of_nonneg_left w1.2 n1
    have p0 : 0 ≤ x * y := by omega
    have p3 : x * y * 1 ≤ x * y * z := Int.mul_le_mul_of_nonneg_left b1.1 p0
    have p4 : x * y * z ≤ x * y * 144 := Int.mul_le_mul_of_nonneg_left b1.2 p0
    omega
  unfold metalR metalTo
  constructor
  · rw [← hsum]; exact sumTo_le _ fun k hk => (key k hk).1
  · rw [← hsum]
    unfold sumZ
    rw [← sumTo_mul]
    exact sumTo_le _ fun k hk => (key k hk).2
theorem metalOfV_ok {f : FT} {zs : List Int} (h : caseErr f zs = 0) : metalOfV f zs = .tuple #[.int .i64 (metalR f zs), .int .i64 0] := by unfold metalOfV; rw [if_neg (by rw [h]; simp), h]
/-- So many bills. -/
def mulL (n : Int) (bl : List Int) : List Int := bl.map (n * ·)
theorem mulL_len (n : Int) (bl : List Int) : (mulL n bl).length = bl.length := by simp [mulL]
theorem mulL_at (n : Int) (bl : List Int) (k : Nat) : (mulL n bl).getD k 0 = n * bl.getD k 0 := by
  unfold mulL
  rw [List.getD_eq_getElem?_getD, List.getElem?_map, List.getD_eq_getElem?_getD]
  cases bl[k]? <;> simp
theorem mulL_zero (bl : List Int) : mulL 0 bl = List.replicate bl.length 0 := by
  unfold mulL; simp [List.eq_replicate_iff]
theorem mulL_next (n : Int) (bl : List Int) : zipK (· + ·) (mulL n bl) bl = mulL (n + 1) bl := by
  refine list_ext_getD (by rw [zipK_len, mulL_len, mulL_len]) fun k hk => ?_
  rw [zipK_len, mulL_len] at hk
  rw [zipK_at _ _ _ _ (by rw [mulL_len]; exact hk), mulL_at, mulL_at, Int.add_mul]; omega
section
variable {f : FT} {ns bl : List Int} {size : Int}
theorem BillOk.mulBd (h : BillOk f ns bl size) (hs : size ≤ 1000) (n : Int) (hn : 0 ≤ n ∧ n ≤ 20) (k : Nat) (hk : k < f.sorts.length) : 0 ≤ (mulL n bl).getD k 0 ∧ (mulL n bl).getD k 0 ≤ 20000 := by
  have h1 := h.nn k hk
  rw [mulL_at]
  have := mul_bd hn (show 0 ≤ bl.getD k 0 ∧ bl.getD k 0 ≤ 1000 by omega)
  omega
theorem BillOk.mulCounts (h : BillOk f ns bl size) (hs : size ≤ 1000) (n : Int) (hn : 0 ≤ n ∧ n ≤ 20) : countsErr f (mulL n bl) = 0 :=
  counts_of (by rw [mulL_len, h.len]) fun k hk => by have := h.mulBd hs n hn k (by rw [mulL_len, h.len] at hk; exact hk); omega
theorem BillOk.join (h : BillOk f ns bl size) (hc : (chk f).2 = 0) (hs : size ≤ 1000) (n : Int) (hn : 0 ≤ n ∧ n ≤ 20) : joinR f (mulL n bl) bl = (mulL (n + 1) bl, 0) := by
  obtain ⟨_, h1, _, _⟩ := chk_zero hc
  rw [← mulL_next]
  refine parted.join_all (parted.err2_ok hc (h.mulCounts hs n hn) (h.counts (by omega))) (by rw [mulL_len, h.len]; exact h1) fun k hk => ?_
  rw [mulL_len, h.len] at hk
  have h2 := h.mulBd hs n hn k hk; have h3 := h.nn k hk
  omega
theorem sum_some {zs : List Int} : ∀ n, sumTo (fun k => zs.getD k 0) n ≠ 0 → (∀ k, k < n → 0 ≤ zs.getD k 0) → ∃ j, j < n ∧ 0 < zs.getD j 0
  | 0, h, _ => absurd rfl h
  | n + 1, h, hz => by
    rw [sumTo] at h
    by_cases h0 : zs.getD n 0 = 0
    · obtain ⟨j, hj, hp⟩ := sum_some n (by omega) (fun k hk => hz k (by omega))
      exact ⟨j, by omega, hp⟩
    · have := hz n (by omega); exact ⟨n, by omega, by omega⟩
/-- How often the need can be taken of one bill, and of the cases of n bills. -/
theorem BillOk.times (h : BillOk f ns bl size) (hc : caseErr f ns = 0) (h0 : sumZ ns ns.length ≠ 0) (hs : size ≤ 1000) (n : Int) (hn : 0 ≤ n ∧ n ≤ 20) :
    ∃ (a b s t : Int), timesR f bl ns = (a, s, 0) ∧ timesR f (mulL n bl) ns = (b, t, 0) ∧ 0 ≤ a ∧ a ≤ 1000 ∧ n * a ≤ b := by
  obtain ⟨h1, h2⟩ := case_zero hc
  obtain ⟨l, b⟩ := counts_zero h2
  have hl := h.len
  obtain ⟨t1, t2, t3⟩ := times_mul (bl := bl) (cl := mulL n bl) (ns := ns) (n := n) (m := ns.length) hn.1 (fun j hj => (h.nn j (by omega)).1) (fun j _ => mulL_at n bl j) (sum_some ns.length h0 (fun k hk => (b k hk).1))
  have e1 : caseErr2 f bl ns = 0 := case2_of (case_of h1 (h.counts (by omega))) h2
  have e2 : caseErr2 f (mulL n bl) ns = 0 := case2_of (case_of h1 (h.mulCounts hs n hn)) h2
  obtain ⟨p1, p2, p3, p4, _⟩ := t1
  obtain ⟨q1, q2, q3, q4, _⟩ := t2
  refine ⟨(timesTo bl ns ns.length).1, (timesTo (mulL n bl) ns ns.length).1, (timesTo bl ns ns.length).2, (timesTo (mulL n bl) ns ns.length).2, ?_, ?_, p4, ?_, t3⟩
  · unfold timesR; rw [if_neg (by rw [e1]; simp), if_neg (by omega)]
  · unfold timesR; rw [if_neg (by rw [e2]; simp), if_neg (by omega)]
  · have := h.nn _ (show (timesTo bl ns ns.length).2 < f.sorts.length by omega)
    rw [p3]
    exact Int.le_trans (Int.ediv_le_self _ this.1) (by omega)
/-- What Cast and MetalOf tell of the bill. -/
theorem BillOk.cast (h : BillOk f ns bl size) (hc : (chk f).2 = 0) (hs : 1 ≤ size ∧ size ≤ 1000) (stock : Int) (hst : 0 ≤ stock ∧ stock ≤ 1000000000000000) :
    ∃ m q r : Int, metalOfV f bl = .tuple #[.int .i64 m, .int .i64 0] ∧ castV f stock bl = .tuple #[.int .i64 q, .int .i64 r, .int .i64 0] ∧ 1 ≤ m ∧ m ≤ 14400000000 ∧ 0 ≤ q ∧ q ≤ stock ∧ 0 ≤ r ∧ r < m ∧ q * m + r = stock ∧ q = stock / m := by
  have hm := h.metal hc (by omega)
  have e1 := h.counts (by omega)
  have e2 := case_of hc e1
  refine ⟨metalR f bl, stock / metalR f bl, stock % metalR f bl, metalOfV_ok e2, ?_, by omega, by omega, Int.ediv_nonneg hst.1 (by omega), Int.ediv_le_self _ hst.1, Int.emod_nonneg _ (by omega), Int.emod_lt_of_pos _ (by omega), ?_, rfl⟩
  · unfold castV castR
    rw [if_neg (by rw [hc]; simp), if_neg (by simp; omega), if_neg (by rw [e1]; simp), if_neg (by omega)]
  · rw [Int.mul_comm]; exact Int.mul_ediv_add_emod _ _
end
end Go.Proofs.Ytphkffndhifdkaa.casts
