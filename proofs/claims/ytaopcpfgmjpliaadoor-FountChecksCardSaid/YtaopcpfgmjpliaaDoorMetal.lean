/-
  Walks: metal.
-/
import Derived.Test.YtaopcpfgmjpliaaDoorCase
namespace Go.Proofs.YtaopcpfgmjpliaaDoor
open Go.RowKit

def sumTo (g : Nat → Int) : Nat → Int | 0 => 0 | n + 1 => sumTo g n + g n
theorem sumTo_bd (g : Nat → Int) (M : Int) (n : Nat) (h : ∀ k, k < n → 0 ≤ g k ∧ g k ≤ M) : 0 ≤ sumTo g n ∧ sumTo g n ≤ n * M := by
  induction n with
  | zero => simp [sumTo]
  | succ n ih =>
    have h1 := ih (fun k hk => h k (by omega))
    have h2 := h n (by omega)
    rw [sumTo]
    have : ((n + 1 : Nat) : Int) * M = n * M + M := by rw [Int.natCast_add, Int.add_mul]; simp
    omega
def metalTo (ss : List TS) (cs : List Int) (body : Int) (n : Nat) : Int := sumTo (fun k => cs.getD k 0 * (ss.getD k TS.zero).width * body) n
/-- Counts, widths and the body lie in their ranges. -/
structure MetalOk (f : FT) (cs : List Int) : Prop where
  len : cs.length = f.sorts.length
  few : f.sorts.length ≤ 120
  body : 1 ≤ f.body ∧ f.body ≤ 144
  cnt : ∀ k, k < f.sorts.length → 0 ≤ cs.getD k 0 ∧ cs.getD k 0 ≤ 1000000
  wid : ∀ k, k < f.sorts.length → 1 ≤ (f.sorts.getD k TS.zero).width ∧ (f.sorts.getD k TS.zero).width ≤ 100000
theorem MetalOk.of {f : FT} {cs : List Int} (h1 : (chk f).2 = 0) (h2 : countsErr f cs = 0) : MetalOk f cs := by
  obtain ⟨a, b, c, d⟩ := chk_zero h1
  obtain ⟨e, g⟩ := counts_zero h2
  exact ⟨e, c, a, fun k hk => g k (by omega), fun k hk => (sort_zero (d k hk)).2.2.2.1⟩
theorem MetalOk.term {f : FT} {cs : List Int} (h : MetalOk f cs) (k : Nat) (hk : k < f.sorts.length) : 0 ≤ cs.getD k 0 * (f.sorts.getD k TS.zero).width * f.body ∧ cs.getD k 0 * (f.sorts.getD k TS.zero).width * f.body ≤ 14400000000000 := by
  have w1 := h.wid k hk
  have p1 := mul_bd (h.cnt k hk) ⟨Int.le_trans (by omega) w1.1, w1.2⟩
  exact mul_bd p1 ⟨Int.le_trans (by omega) h.body.1, h.body.2⟩
theorem MetalOk.bd {f : FT} {cs : List Int} (h : MetalOk f cs) (n : Nat) (hn : n ≤ f.sorts.length) : 0 ≤ metalTo f.sorts cs f.body n ∧ metalTo f.sorts cs f.body n ≤ 1728000000000000 := by
  have := sumTo_bd (fun k => cs.getD k 0 * (f.sorts.getD k TS.zero).width * f.body) 14400000000000 n (fun k hk => h.term k (by omega))
  have hf := h.few
  unfold metalTo
  omega

def metalR (f : FT) (cs : List Int) : Int := metalTo f.sorts cs f.body f.sorts.length
def metalOfV (f : FT) (cs : List Int) : Value := .tuple #[.int .i64 (if caseErr f cs ≠ 0 then 0 else metalR f cs), .int .i64 (caseErr f cs)]
/-- What Cast returns. -/
def castR (f : FT) (stock : Int) (bill : List Int) : Int × Int × Int :=
  if (chk f).2 ≠ 0 then (0, 0, (chk f).2) else if ¬ (0 ≤ stock ∧ stock ≤ 1000000000000000000) then (0, 0, 2) else if countsErr f bill ≠ 0 then (0, 0, countsErr f bill)
  else if metalR f bill = 0 then (0, 0, 11) else (stock / metalR f bill, stock % metalR f bill, 0)
def castV (f : FT) (stock : Int) (bill : List Int) : Value := .tuple #[.int .i64 (castR f stock bill).1, .int .i64 (castR f stock bill).2.1, .int .i64 (castR f stock bill).2.2]
end Go.Proofs.YtaopcpfgmjpliaaDoor
