/-
  Plain law: how often a need can be taken: the least quotient, and the first sort that has it.
  Law of the walk: a new slice of so many zeros.
  A fount that was boxed at a call's beginning, in later worlds; an or over a list.
  Walks: a strings.Builder that the call itself made: what is written to it, and what else stays as it is.
  Slices of elements of any size, as cells: read, one's own, appended to.
  Walk: CopyFount, a fount in memory of its own.
-/
import Derived.Test.YtccdnieoaejgdaaGreatDoorT2AD
import Derived.Test.YtccdnieoaejgdaaGreatDoorT2AE
import Derived.Test.YtccdnieoaejgdaaGreatDoorT2AA
import Derived.Test.YtccdnieoaejgdaaGreatDoorShelf
import Derived.Lib.Builder
import Derived.Lib.AppendStr
import Derived.Lib.UnsafeStr
import Derived.Laws.Externs
import Derived.Laws.OwnMore
import Derived.OwnWalk
import Derived.Deep.AppendLies
import Derived.Test.YtccdnieoaejgdaaGreatDoorProg
set_option linter.unusedVariables false
set_option linter.unusedSimpArgs false
set_option linter.unusedSectionVars false
namespace Go.Proofs.YtccdnieoaejgdaaGreatDoor
open Go.RowKit

end Go.Proofs.YtccdnieoaejgdaaGreatDoor
namespace Go.Proofs.YtccdnieoaejgdaaGreatDoor
open Go.RowKit

end Go.Proofs.YtccdnieoaejgdaaGreatDoor
namespace Go.Proofs.YtccdnieoaejgdaaGreatDoor
open Go.RowKit

section
variable {w a b : World} {name : ByteArray} {body : Int} {A : Option Addr} {n c : Nat}
end
end Go.Proofs.YtccdnieoaejgdaaGreatDoor
namespace Go.Proofs.YtccdnieoaejgdaaGreatDoor
open Go.RowKit

section
variable {w w' : World} {B b : Nat} {v : Value} {l : List UInt8}
end

end Go.Proofs.YtccdnieoaejgdaaGreatDoor
namespace Go.Proofs.YtccdnieoaejgdaaGreatDoor
open Go.RowKit Go.Lib

/-- A slice of n elements of so many cells reads as cs. -/
def RC (w : World) (A : Option Addr) (n size : Nat) (cs : List Value) : Prop :=
  cs.length = n * size ∧ n ≤ 9223372036854775807 ∧ (0 < n → ∃ b off, A = some ⟨b, off, none⟩ ∧ b < w.heap.size ∧ ∀ j u, cs[j]? = some u → w.cell? ⟨b, off + j, none⟩ = some u)
section
variable {w w' : World} {A : Option Addr} {n size : Nat} {cs : List Value}
theorem RC.empty (w : World) (A : Option Addr) (size : Nat) : RC w A 0 size [] := ⟨by simp, by omega, fun h => absurd h (by omega)⟩
theorem RC.blk {g : Nat} {t : TypeId} {c : Array Value} (h : Blk w g t c) (hs : c.size = n * size) (hn : n ≤ 1000000) : RC w (some ⟨g, 0, none⟩) n size c.toList :=
  ⟨by simpa using hs, by omega, fun _ => ⟨g, 0, rfl, h.lt, fun j u hu => by rw [Nat.zero_add]; exact h.cell j u (by simpa using hu)⟩⟩
end
section
variable {w w' : World} {base n size : Nat} {e : TypeId} {v : Value} {xs : List Value}
theorem own_form (h : w.ownsRow base e size v n xs) (hn : n ≤ 1000000) : ∃ A c, v = .slice A n c ∧ RC w A n size xs := by
  rcases h.2 with ⟨h1, h2⟩ | ⟨g, cap, cur, hv, hg, hh, hnc, hcm, hcs, htk⟩
  · subst h2
    refine ⟨none, 0, h1, ?_⟩
    have := h.1
    rw [Nat.zero_mul] at this
    rw [List.eq_nil_of_length_eq_zero this]
    exact RC.empty _ _ _
  · refine ⟨some ⟨g, 0, none⟩, cap, hv, h.1, by omega, fun _ => ⟨g, 0, rfl, Blk.lt (t := e) (cs := cur) hh, fun j u hu => ?_⟩⟩
    rw [← htk] at hu
    have hj : j < n * size := by
      rcases Nat.lt_or_ge j (n * size) with h2 | h2
      · exact h2
      · rw [List.getElem?_eq_none (by simp; omega)] at hu; cases hu
    rw [List.getElem?_take_of_lt hj, Array.getElem?_toList] at hu
    rw [Nat.zero_add]
    exact Blk.cell (t := e) (cs := cur) hh j u hu
theorem own_later (h : w.ownsRow base e size v n xs) (hx : Ext w w') : w'.ownsRow base e size v n xs := by
  refine World.ownsRow.kept (row := none) h ⟨hx.os, hx.tape, hx.output, hx.size, fun k hk _ => hx.block hk⟩ ?_
  cases hv : v.ownBlock with
  | none => exact .inl rfl
  | some g => exact .inr (by simp)
theorem own_grown {a : World} (h : w.ownsRow base e size v n xs) (hg : w.grownBy w' v.ownBlock) (hx : Ext a w) (hb : a.heap.size ≤ base) : Ext a w' :=
  hx.grown hg fun k hk => Nat.le_trans hb (h.lt k hk).1
end
/-- What is known of a slice's type and of its elements'. -/
structure Elt (sl el : TypeId) (size bytes : Nat) (z : Value) : Prop where
  und : Tryz.prog.underlying sl = some (.slice el)
  info : (Tryz.prog.info? el).map (fun i => (i.zero, i.size, i.bytes)) = some (some z, size, bytes)
  zs : z.cells.size = size
  pos : 0 < size
  le : bytes ≤ 1000
theorem Elt.parts {sl el : TypeId} {size bytes : Nat} {z : Value} (K : Elt sl el size bytes z) : ∃ i0, Tryz.prog.info? el = some i0 ∧ i0.zero = some z ∧ i0.size = size ∧ i0.bytes = bytes := by
  have h := K.info
  cases hi : Tryz.prog.info? el with
  | none => rw [hi] at h; cases h
  | some i =>
    rw [hi] at h
    simp at h
    exact ⟨i, rfl, h.1, h.2.1, h.2.2⟩
section
variable {sl el : TypeId} {size bytes : Nat} {z : Value} (K : Elt sl el size bytes z)
include K
/-- A slice that reads as cells is appended to a slice of one's own. -/
theorem run_appendC {w : World} {base n m c : Nat} {v : Value} {xs news : List Value} {A : Option Addr} (hown : w.ownsRow base el size v n xs) (hr : RC w A m size news) (h1 : ∀ u ∈ news, u.oneCell' = true) (hlen : n + m ≤ 1000000) (hbase : base ≤ w.heap.size) (ty : TypeId) :
    ∃ v' w', (Builtin.append_ #[sl, sl] ty #[v, .slice A m c]).run Tryz.prog w = .ok v' w' ∧ w'.ownsRow base el size v' (n + m) (xs ++ news) ∧ w.grownBy w' v.ownBlock := by
  obtain ⟨i0, hi, hz0, hz1, hz2⟩ := K.parts
  have hle := K.le
  rcases A with _ | ad
  · have hm : m = 0 := by
      rcases Nat.eq_zero_or_pos m with h0 | h0
      · exact h0
      · obtain ⟨b, off, h, _⟩ := hr.2.2 h0
        cases h
    subst hm
    have hnn : news = [] := List.eq_nil_of_length_eq_zero (by have := hr.1; simpa using this)
    subst hnn
    refine ⟨v, w, ?_, by simpa using hown, World.grownBy.refl w _⟩
    rcases hown.2 with ⟨rfl, rfl⟩ | ⟨g, cap, cur, rfl, _, _, hnc, _⟩
    · simp [Builtin.append_, run_underlying K.und, sizeOf, typeInfo, hi, Builtin.lenOf, Builtin.firstCells]
    · simp [Builtin.append_, run_underlying K.und, sizeOf, typeInfo, hi, Builtin.lenOf, Builtin.firstCells, hnc, storeCells]
  · obtain ⟨v', w', hrun, h2, h3, _⟩ := run_append_own_at (P := Tryz.prog) w base sl ty el i0 z size bytes K.und hi hz0 hz1 hz2 K.zs K.pos v n _ hown ad m c news hr.1
      (fun j u hj => by
        rcases Nat.eq_zero_or_pos m with h0 | h0
        · subst h0
          have : news = [] := List.eq_nil_of_length_eq_zero (by have := hr.1; simpa using this)
          subst this
          simp at hj
        · obtain ⟨b, off, he, _, hc⟩ := hr.2.2 h0
          cases he
          have := hc j u hj
          unfold Addr.add
          by_cases hj0 : j = 0
          · rw [if_pos hj0]; have e : off + j = off := by omega
            rw [e] at this; exact this
          · rw [if_neg hj0]; exact this)
      h1 (by unfold maxLen; omega) (by
        have h9 : (n + m) * bytes ≤ 1000000 * 1000 := Nat.mul_le_mul hlen hle
        omega) hbase
    exact ⟨v', w', hrun, h2, h3⟩
theorem list_appendC {w : World} {ops : Array Oper} {rest : List Oper} {o : Oper} {a : Act} {Q : Exit → Act → World → Prop} (hgd : o.guard = none) (s x : Operand) (ho : o.op = .call { callee := .builtin .append, args := #[s, x], argTypes := #[sl, sl] })
    (base n : Nat) (v : Value) (xs : List Value) (hs : a.eval s = v) (hown : w.ownsRow base el size v n xs) (A : Option Addr) (m c : Nat) (news : List Value) (hx : a.eval x = .slice A m c) (hr : RC w A m size news) (h1 : ∀ u ∈ news, u.oneCell' = true) (hlen : n + m ≤ 1000000) (hbase : base ≤ w.heap.size)
    (h : ∀ v' w', w'.ownsRow base el size v' (n + m) (xs ++ news) → w.grownBy w' v.ownBlock → wpList Tryz.prog ops Q rest (a.put o.dst v') w') : wpList Tryz.prog ops Q (o :: rest) a w := by
  refine wpList_plain hgd fun K9 hK => ?_
  obtain ⟨v', w', hr', h2, h3⟩ := run_appendC K (c := c) hown hr h1 hlen hbase o.type
  unfold Oper.wp execOp
  simp only [ho, resolve, invoke, builtin, Sem.run_bind, Sem.run_pure, Result.andThen_ok, List.map_toArray, List.map_cons, List.map_nil, hs, hx, hr']
  exact hK _ _ (h v' w' h2 h3)
end
end Go.Proofs.YtccdnieoaejgdaaGreatDoor
namespace Go.Proofs.YtccdnieoaejgdaaGreatDoor
open Go.RowKit

def sortCells : List TS → List Value
  | [] => []
  | s :: r => .string s.name :: .string s.text :: .int .i64 s.kind :: .int .i64 s.width :: sortCells r
theorem sortCells_len : ∀ ss : List TS, (sortCells ss).length = ss.length * 4
  | [] => rfl
  | s :: r => by simp [sortCells, sortCells_len r]; omega
theorem sortCells_at : ∀ (ss : List TS) (k : Nat), k < ss.length → (sortCells ss)[k * 4]? = some (.string (ss.getD k TS.zero).name) ∧ (sortCells ss)[k * 4 + 1]? = some (.string (ss.getD k TS.zero).text) ∧
    (sortCells ss)[k * 4 + 2]? = some (.int .i64 (ss.getD k TS.zero).kind) ∧ (sortCells ss)[k * 4 + 3]? = some (.int .i64 (ss.getD k TS.zero).width)
  | s :: r, 0, _ => ⟨rfl, rfl, rfl, rfl⟩
  | s :: r, k + 1, h => by
    obtain ⟨h0, h1, h2, h3⟩ := sortCells_at r k (by simpa using h)
    rw [show (k + 1) * 4 = k * 4 + 4 by omega]
    exact ⟨h0, h1, h2, h3⟩
def OwnT (w : World) (base : Nat) (v : Value) (ss : List TS) : Prop := w.ownsRow base 88 4 v ss.length (sortCells ss)
theorem OwnT.form {w : World} {base : Nat} {v : Value} {ss : List TS} (h : OwnT w base v ss) (hz : ss.length ≤ 1000000) : ∃ A c, v = .slice A ss.length c ∧ ss.length ≤ c ∧ c ≤ maxLen ∧ RT w A ss.length ss := by
  rcases h.2 with ⟨h1, h2⟩ | ⟨g, cap, cur, hv, hg, hh, hnc, hcm, hcs, htk⟩
  · exact ⟨none, 0, by rw [h1, h2], by omega, by unfold maxLen; omega, rfl, by omega, fun h => absurd h (by omega)⟩
  · refine ⟨some ⟨g, 0, none⟩, cap, hv, hnc, hcm, rfl, by omega, fun _ => ⟨g, 0, rfl, ?_, fun k hk => ?_⟩⟩
    · exact (Blk.lt (show Blk w g 88 cur from hh))
    · have hb : Blk w g 88 cur := hh
      have key : ∀ j u, (sortCells ss)[j]? = some u → w.cell? ⟨g, j, none⟩ = some u := fun j u hj => by
        have hjl : j < ss.length * 4 := by
          rcases Nat.lt_or_ge j (ss.length * 4) with h | h
          · exact h
          · rw [List.getElem?_eq_none (by rw [sortCells_len]; exact h)] at hj; cases hj
        refine hb.cell j u ?_
        have : (cur.toList.take (ss.length * 4))[j]? = (sortCells ss)[j]? := by rw [htk]
        rw [List.getElem?_take_of_lt hjl, Array.getElem?_toList] at this
        rw [this, hj]
      obtain ⟨s0, s1, s2, s3⟩ := sortCells_at ss k hk
      rw [Nat.zero_add]
      exact ⟨key _ _ s0, key _ _ s1, key _ _ s2, key _ _ s3⟩
end Go.Proofs.YtccdnieoaejgdaaGreatDoor
