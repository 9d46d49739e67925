/-
  Plain law: the shares of a bill, what remains of it, and the steps up.
-/
import Derived.Test.YtaopcpfgmjpliaaDoorSortMem
namespace Go.Proofs.YtaopcpfgmjpliaaDoor
open Go.RowKit

def shareB (total all : Int) (ns : List Int) (k : Nat) : Int := total * ns.getD k 0 / all
def baseB (total all : Int) (ns : List Int) : List Int := (List.range ns.length).map (shareB total all ns)
theorem baseB_len (total all : Int) (ns : List Int) : (baseB total all ns).length = ns.length := by simp [baseB]
theorem baseB_at (total all : Int) (ns : List Int) (k : Nat) (h : k < ns.length) : (baseB total all ns).getD k 0 = shareB total all ns k := by
  unfold baseB; rw [List.getD_eq_getElem?_getD, List.getElem?_map, List.getElem?_range h]; rfl
theorem sumTo_congr (g h : Nat → Int) : ∀ n, (∀ k, k < n → g k = h k) → sumTo g n = sumTo h n
  | 0, _ => rfl
  | n + 1, e => by rw [sumTo, sumTo, sumTo_congr g h n (fun k hk => e k (by omega)), e n (by omega)]
theorem sumTo_mul (a : Int) (g : Nat → Int) : ∀ n, sumTo (fun k => a * g k) n = a * sumTo g n
  | 0 => by simp [sumTo]
  | n + 1 => by rw [sumTo, sumTo, sumTo_mul a g n, Int.mul_add]
theorem sumTo_add (g h : Nat → Int) : ∀ n, sumTo (fun k => g k + h k) n = sumTo g n + sumTo h n
  | 0 => rfl
  | n + 1 => by rw [sumTo, sumTo, sumTo, sumTo_add g h n]; omega
theorem sumTo_one (g : Nat → Int) (n : Nat) (hg : ∀ k, k < n → 0 ≤ g k) : ∀ k, k < n → g k ≤ sumTo g n := by
  induction n with
  | zero => intro k hk; omega
  | succ n ih =>
    intro k hk
    have h0 : 0 ≤ sumTo g n := by
      clear ih hk
      induction n with
      | zero => simp [sumTo]
      | succ n ih => rw [sumTo]; have := ih (fun k hk => hg k (by omega)); have := hg n (by omega); omega
    rw [sumTo]
    by_cases h : k < n
    · have := ih (fun j hj => hg j (by omega)) k h; have := hg n (by omega); omega
    · obtain rfl : k = n := by omega
      omega

/-- What is left of the total when each has its share. -/
def restB (total all : Int) (ns : List Int) : Int := total - sumZ (baseB total all ns) ns.length
section
variable {total all : Int} {ns : List Int} (hall : all = sumZ ns ns.length) (ha : 1 ≤ all) (ht : 0 ≤ total) (hns : ∀ k, k < ns.length → 0 ≤ ns.getD k 0)
include ha ht hns in
theorem share_nonneg (k : Nat) (hk : k < ns.length) : 0 ≤ shareB total all ns k := Int.ediv_nonneg (Int.mul_nonneg ht (hns k hk)) (by omega)
include hall in
theorem rest_eq : all * restB total all ns = sumTo (fun k => total * ns.getD k 0 % all) ns.length := by
  have h1 : sumZ (baseB total all ns) ns.length = sumTo (shareB total all ns) ns.length := sumTo_congr _ _ _ fun k hk => baseB_at total all ns k hk
  have h2 : total * all = sumTo (fun k => all * shareB total all ns k + total * ns.getD k 0 % all) ns.length := by
    rw [hall]
    unfold sumZ
    rw [← sumTo_mul]
    refine sumTo_congr _ _ _ fun k _ => ?_
    exact (Int.mul_ediv_add_emod _ _).symm
  rw [sumTo_add, sumTo_mul] at h2
  unfold restB
  rw [h1, Int.mul_sub, Int.mul_comm all total]
  omega
include hall ha in
theorem rest_bd : 0 ≤ restB total all ns ∧ restB total all ns ≤ ns.length := by
  have h := rest_eq (total := total) hall
  have hb := sumTo_bd (fun k => total * ns.getD k 0 % all) all ns.length (fun k hk => ⟨Int.emod_nonneg _ (by omega), Int.le_of_lt (Int.emod_lt_of_pos _ (by omega))⟩)
  rw [← h] at hb
  constructor
  · exact Int.nonneg_of_mul_nonneg_right hb.1 (by omega)
  · have h2 : all * restB total all ns ≤ all * ns.length := by rw [Int.mul_comm all (ns.length : Int)]; exact hb.2
    exact Int.le_of_mul_le_mul_left h2 (by omega)
include hall ha ht hns in
theorem share_le (k : Nat) (hk : k < ns.length) : shareB total all ns k ≤ total := by
  have h0 : ns.getD k 0 ≤ all := by rw [hall]; exact sumTo_one (fun k => ns.getD k 0) ns.length hns k hk
  unfold shareB
  have h1 : total * ns.getD k 0 ≤ total * all := Int.mul_le_mul_of_nonneg_left h0 ht
  have h2 : total * ns.getD k 0 / all ≤ total * all / all := Int.ediv_le_ediv (by omega) h1
  rwa [Int.mul_ediv_cancel _ (by omega)] at h2
end
/-- One is added at each of the first n places that the order names. -/
def bumpTo (ord outs : List Int) : Nat → List Int
  | 0 => outs
  | j + 1 => (bumpTo ord outs j).set (ord.getD j 0).toNat ((bumpTo ord outs j).getD (ord.getD j 0).toNat 0 + 1)
theorem bump_len (ord outs : List Int) : ∀ n, (bumpTo ord outs n).length = outs.length
  | 0 => rfl
  | n + 1 => by rw [bumpTo, List.length_set, bump_len ord outs n]
theorem getD_set {l : List Int} {i j : Nat} {z : Int} (hi : i < l.length) : (l.set i z).getD j 0 = if j = i then z else l.getD j 0 := by
  rw [List.getD_eq_getElem?_getD, List.getElem?_set, List.getD_eq_getElem?_getD]
  by_cases h : j = i
  · subst h; simp [hi]
  · rw [if_neg (Ne.symm h), if_neg h]
theorem sumTo_bump (g : Nat → Int) (i : Nat) : ∀ n, i < n → sumTo (fun k => if k = i then g i + 1 else g k) n = sumTo g n + 1
  | n + 1, h => by
    rw [sumTo, sumTo]
    by_cases hi : i < n
    · rw [sumTo_bump g i n hi, if_neg (by omega)]; omega
    · obtain rfl : i = n := by omega
      rw [if_pos rfl, sumTo_congr (fun k => if k = i then g i + 1 else g k) g i (fun k hk => by rw [if_neg (by omega)])]; omega
section
variable {ord outs : List Int} (hord : ∀ k, k < outs.length → ∃ j : Nat, j < outs.length ∧ ord.getD k 0 = j)
include hord in
theorem bump_sum : ∀ n, n ≤ outs.length → sumZ (bumpTo ord outs n) outs.length = sumZ outs outs.length + n
  | 0, _ => by simp [bumpTo]
  | n + 1, h => by
    obtain ⟨j, hj, he⟩ := hord n (by omega)
    have ih := bump_sum n (by omega)
    have hl : j < (bumpTo ord outs n).length := by rw [bump_len]; exact hj
    have : sumZ (bumpTo ord outs (n + 1)) outs.length = sumZ (bumpTo ord outs n) outs.length + 1 := by
      unfold sumZ
      rw [← sumTo_bump (fun k => (bumpTo ord outs n).getD k 0) j outs.length hj]
      refine sumTo_congr _ _ _ fun k hk => ?_
      rw [bumpTo, he, Int.toNat_natCast, getD_set hl]
    rw [this, ih]; omega
include hord in
theorem bump_bd (hb : ∀ k, k < outs.length → 0 ≤ outs.getD k 0) : ∀ n, n ≤ outs.length → ∀ k, k < outs.length → 0 ≤ (bumpTo ord outs n).getD k 0
  | 0, _, k, hk => hb k hk
  | n + 1, h, k, hk => by
    obtain ⟨j, hj, he⟩ := hord n (by omega)
    have ih := bump_bd hb n (by omega)
    rw [bumpTo, he, Int.toNat_natCast, getD_set (by rw [bump_len]; exact hj)]
    split
    · have := ih j hj; omega
    · exact ih k hk
end
/-- What BillFor returns. -/
def billL (total : Int) (ns : List Int) : List Int :=
  bumpTo (ordL (ns.length - 1) (cfB (ns.length - 1) total (sumZ ns ns.length) ns)) (baseB total (sumZ ns ns.length) ns) (restB total (sumZ ns ns.length) ns).toNat
def billR (f : FT) (ns : List Int) (total : Int) : List Int × Int :=
  if caseErr f ns ≠ 0 then ([], caseErr f ns) else if ¬ (0 ≤ total ∧ total ≤ 1000000) then ([], 2) else if sumZ ns ns.length = 0 then ([], 11) else (billL total ns, 0)
theorem billL_len (total : Int) (ns : List Int) : (billL total ns).length = ns.length := by unfold billL; rw [bump_len, baseB_len]
theorem billL_sum {total : Int} {ns : List Int} (ha : 1 ≤ sumZ ns ns.length) (ht : 0 ≤ total) (hns : ∀ k, k < ns.length → 0 ≤ ns.getD k 0) :
    sumZ (billL total ns) ns.length = total ∧ ∀ k, k < ns.length → 0 ≤ (billL total ns).getD k 0 := by
  obtain ⟨r0, r1⟩ := rest_bd (total := total) rfl ha
  have hl := baseB_len total (sumZ ns ns.length) ns
  have hord : ∀ k, k < (baseB total (sumZ ns ns.length) ns).length → ∃ j : Nat, j < (baseB total (sumZ ns ns.length) ns).length ∧ (ordL (ns.length - 1) (cfB (ns.length - 1) total (sumZ ns ns.length) ns)).getD k 0 = j := fun k hk => by
    obtain ⟨j, hj, he⟩ := ordL_bd (ns.length - 1) (cfB (ns.length - 1) total (sumZ ns ns.length) ns) k (by omega)
    exact ⟨j, by omega, he⟩
  constructor
  · have := bump_sum hord (restB total (sumZ ns ns.length) ns).toNat (by omega)
    rw [hl] at this
    unfold billL
    rw [this]
    unfold restB at r0 ⊢
    omega
  · intro k hk
    exact bump_bd hord (fun k hk => by rw [hl] at hk; rw [baseB_at _ _ _ _ hk]; exact share_nonneg ha ht hns k hk) _ (by omega) k (by omega)
end Go.Proofs.YtaopcpfgmjpliaaDoor
