/-
  A fount that was boxed at a call's beginning, in later worlds; an or over a list.
-/
import Derived.Test.YtaopcpfgmjpliaaDoorLaid
import Derived.Test.YtaopcpfgmjpliaaDoorPartedLaw
import Derived.Test.YtaopcpfgmjpliaaDoorTimesLaw
import Derived.Test.YtaopcpfgmjpliaaDoorMake
namespace Go.Proofs.YtaopcpfgmjpliaaDoor
open Go.RowKit

/-- The fount's box, and all that lay, lie in wr. -/
structure Box (w : World) (name : ByteArray) (body : Int) (A : Option Addr) (n c : Nat) (wr : World) : Prop where
  ext : Ext w wr
  blk : Blk wr w.heap.size 24 #[.string name, .int .i64 body, .slice A n c]
section
variable {w a b : World} {name : ByteArray} {body : Int} {A : Option Addr} {n c : Nat}
theorem Box.next (h : Box w name body A n c a) (hx : Ext a b) : Box w name body A n c b := ⟨h.ext.trans hx, h.blk.ext hx⟩
theorem Box.start (w : World) (h : Ext (w.alloc (.cells #[.string name, .int .i64 body, .slice A n c] 24)) b) : Box w name body A n c b := ⟨h.of_alloc, (Blk.new _ _ _).ext h⟩
end
theorem few_ten {f : FT} {ns : List Int} (hfw : fewB f = true) (hc : caseErr f ns = 0) : ns.length ≤ 10 := by
  obtain ⟨_, h1, _⟩ := fewB_true.1 hfw
  obtain ⟨h2, h3⟩ := case_zero hc
  obtain ⟨_, _, h4, _⟩ := chk_zero h2
  obtain ⟨h5, _⟩ := counts_zero h3
  omega
/-- Some of the first n is not 0. -/
def anyTo (l : List Int) : Nat → Bool
  | 0 => false
  | n + 1 => anyTo l n || decide (l.getD n 0 ≠ 0)
theorem anyTo_false {l : List Int} : ∀ n, (∀ k, k < n → l.getD k 0 = 0) → anyTo l n = false
  | 0, _ => rfl
  | n + 1, h => by rw [anyTo, anyTo_false n (fun k hk => h k (by omega)), h n (by omega)]; simp
theorem anyTo_true {l : List Int} {k : Nat} (hk : l.getD k 0 ≠ 0) : ∀ n, k < n → anyTo l n = true
  | n + 1, h => by
    rw [anyTo]
    by_cases e : k < n
    · rw [anyTo_true hk n e]; rfl
    · obtain rfl : k = n := by omega
      rw [decide_eq_true hk, Bool.or_true]
theorem getD_mem0 {zs : List Int} (h : ∀ z ∈ zs, I64 z) (k : Nat) (hk : k < zs.length) : I64 (zs.getD k 0) := by
  rw [List.getD_eq_getElem?_getD, List.getElem?_eq_getElem hk]; exact h _ (List.getElem_mem hk)
end Go.Proofs.YtaopcpfgmjpliaaDoor
