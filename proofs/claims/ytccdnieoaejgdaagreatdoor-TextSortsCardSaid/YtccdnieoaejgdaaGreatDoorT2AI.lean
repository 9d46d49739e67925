/-
  A region whose operations make memory: its values are not known ahead; a condition on values and world is kept by each operation.
  Chapter 5: the roman figures as they lie in memory.
  Plain law: the first error of a row.
  Walks: the em, greatest common divisors, fractions in lowest terms.
  What the rows' condition on package variables is in chapter 2: the walks need nothing of it.
  Walks: lists of sorts: checkList, WidthOf.
  Leaving a function behind loops over iterators: the marks among its deferred calls, none of which has a call.
  Walk: TextOf, what a list of sorts prints.
-/
import Derived.Test.YtccdnieoaejgdaaGreatDoorT2AH
import Derived.Test.YtccdnieoaejgdaaGreatDoorT2AF
import Derived.Test.YtccdnieoaejgdaaGreatDoorT2AG
import Derived.Lib.ItoaNum
import Derived.Lib.Repeat
import Derived.Deep.MidRow
import Derived.Test.YtccdnieoaejgdaaGreatDoorT2AA
import Derived.Test.YtccdnieoaejgdaaGreatDoorT2AE
import Derived.Test.YtccdnieoaejgdaaGreatDoorT2AD
import Derived.StillTailTactics
import Derived.Test.YtccdnieoaejgdaaGreatDoorRows
import Derived.ProofKit
import Derived.OpenShut
import Derived.LaidMore
import Derived.Lay
import Derived.Lib.SmallJoins
import Derived.LaidHandle
import Derived.MakeChecks
import Derived.SevenTiedAt
import Derived.Stop.Joined
import Derived.RangeFuncNested
import Derived.RangeFuncBound
import Derived.RangeFuncCalls
import Derived.RangeFuncLeaves
set_option linter.unusedVariables false
set_option linter.unusedSimpArgs false
set_option linter.unusedSectionVars false
namespace Go.Proofs.YtccdnieoaejgdaaGreatDoor
open Go.RowKit

/-- What is known of the operations' values: none: not yet carried out. -/
abbrev Vs := List (Option Value)
def known (V : Vs) : List Value := V.map (·.getD undef)
/-- Whatever is carried out has what it waits for carried out. -/
def Closed (l : List Oper) (V : Vs) : Prop := ∀ j x, l[j]? = some x → (V.getD j none).isSome = true → ∀ k ∈ dirOf x, (V.getD k none).isSome = true
theorem known_at {V : Vs} {i : Nat} (h : i < V.length) : (known V)[i]? = some ((V.getD i none).getD undef) := by
  unfold known; simp [h]
section
variable {P : Program} {l : List Oper} {a a0 : Act} {W : World}
/-- The values known so far are changed at an operation that is still to come. -/
theorem SteadyJ.turn {V : Vs} {L : Array Bool} (h : SteadyJ l (known V) a0 (fun _ => True) (fun _ _ => True) L a W) {i : Nat} (hun : L.getD i true = false) (u : Value) :
    SteadyJ l (known (V.set i (some u))) a0 (fun _ => True) (fun _ _ => True) L a W :=
  ⟨h.size, h.shut, trivial, fun _ _ _ => trivial, h.defers, h.tsize, h.old, fun j o v t hj hv hd hL => by
    refine h.done j o v t hj ?_ hd hL
    have hne : i ≠ j := fun e => by subst e; rw [hun] at hL; cases hL
    unfold known at hv ⊢
    rw [List.getElem?_map] at hv ⊢
    rwa [List.getElem?_set_ne hne] at hv⟩
theorem SteadyJ.final (hok : steadyOk l = true) {V : List Value} {L : Array Bool} (hlen : V.length = l.length) (h : SteadyJ l V a0 (fun _ => True) (fun _ _ => True) L a W) (hr : Region.ready .any l.toArray L = []) : (∀ i, i < l.length → L.getD i true = true) ∧ a = putAll l V a0 := by
  have hall : ∀ i, i < l.length → L.getD i true = true := by
    intro i
    induction i using Nat.strongRecOn with
    | _ i ih =>
      intro hil
      rw [← Bool.not_eq_false]
      intro hun
      obtain ⟨o, ho⟩ : ∃ o, l[i]? = some o := ⟨_, List.getElem?_eq_getElem hil⟩
      have hoa : l.toArray[i]? = some o := by simpa using ho
      have hmem : i ∈ Region.ready .any l.toArray L := by
        unfold Region.ready
        simp only [List.mem_filter, List.mem_range, Bool.and_eq_true, Bool.not_eq_true']
        refine ⟨by simpa using hil, hun, ?_⟩
        rw [hoa]
        simp only [Option.map_some, Option.getD_some, Array.all_eq_true']
        intro e he
        by_cases hb : Region.binds .any e = true
        · have hk : e.on ∈ dirOf o := List.mem_map.2 ⟨e, List.mem_filter.2 ⟨by simpa using he, hb⟩, rfl⟩
          have hlt := (steadyOk_at hok ho).2.1 e.on hk
          have h1 := ih e.on hlt (by omega)
          rw [Array.getD_eq_getD_getElem?, Array.getElem?_eq_getElem (by rw [h.size]; omega)] at h1 ⊢
          rw [hb]
          simpa using h1
        · rw [Bool.not_eq_true] at hb; rw [hb]; rfl
      rw [hr] at hmem
      cases hmem
  have ha : a = putAll l V a0 := by
    rw [putAll_eq]
    obtain ⟨hz, hd⟩ := stateAt_size l V a0 l.length
    have ht : a.tmps = (stateAt l V a0 l.length).tmps := by
      apply Array.ext_getElem?
      intro t
      by_cases hex : ∃ (j : Nat) (x : Oper), l[j]? = some x ∧ x.dst = some t
      · obtain ⟨j, x, hj, hx⟩ := hex
        have hjl := (List.getElem?_eq_some_iff.1 hj).1
        obtain ⟨v, hv⟩ : ∃ v, V[j]? = some v := ⟨V[j]'(by rw [hlen]; exact hjl), List.getElem?_eq_getElem _⟩
        rw [h.done j x v t hj hv hx (hall j hjl), stateAt_own l V a0 l.length j t x v hjl hj hv hx fun q y hq hy hdy => hq (steady_unique hok hy hj hdy hx)]
      · rw [h.old t fun q y hq hy => absurd ⟨q, y, hq, hy⟩ hex, stateAt_other l V a0 l.length t fun q y _ hq hy => hex ⟨q, y, hq, hy⟩]
    obtain ⟨at_, ad⟩ := a
    have hdef := h.defers
    simp only at ht hdef
    rw [ht, hdef, ← hd]
  exact ⟨hall, ha⟩
end
end Go.Proofs.YtccdnieoaejgdaaGreatDoor
namespace Go.Proofs.YtccdnieoaejgdaaGreatDoor
open Go.RowKit
attribute [local go_sem] stateAt known List.map_cons List.map_nil Option.getD_some

section
variable {w wq W W' : World} {sf : Nat} {tt l : List UInt8} {vv m : Nat} {v0 v1 v2 v3 v4 v5 v6 v7 : Option Value}
end
end Go.Proofs.YtccdnieoaejgdaaGreatDoor
namespace Go.Proofs.YtccdnieoaejgdaaGreatDoor
open Go.RowKit

end Go.Proofs.YtccdnieoaejgdaaGreatDoor
namespace Go.Proofs.YtccdnieoaejgdaaGreatDoor
open Go.RowKit

theorem size_any (z : Int) (w : World) (h : -1000000000000000000 ≤ z ∧ z ≤ 1000000000000000000) : Calls Tryz.prog 136 #[.int .i64 z] w (Same (.int .i64 (max z (-z))) w) := by
  obtain ⟨h1, h2⟩ := h
  go_enter Tryz.func136, Tryz.ntmps136
  go_wp2
  go_ret
  exact ⟨rfl, rfl⟩
end Go.Proofs.YtccdnieoaejgdaaGreatDoor
namespace Go.Proofs.YtccdnieoaejgdaaGreatDoor
open Go.ChangeShapes Go.WideShapes Go.ChangeAt Go.RowKit Go.Joins Go.Deep

def seatLaid : List (String × DataW Unit) := [("unicode/utf8.acceptRanges", Rows.laid_unicode_utf8_acceptRanges), ("unicode/utf8.first", Rows.laid_unicode_utf8_first)]
theorem tab2_of_laid {W : World} (_h : laidMetH Tryz.prog seatLaid W) : True := trivial
theorem own : ownKnob Tryz.prog.godebug = none := by kernel_rfl
theorem laidOut : laidOutB Tryz.prog = true := by kernel_rfl
end Go.Proofs.YtccdnieoaejgdaaGreatDoor
namespace Go.Proofs.YtccdnieoaejgdaaGreatDoor
open Go.RowKit

end Go.Proofs.YtccdnieoaejgdaaGreatDoor
namespace Go.Proofs.YtccdnieoaejgdaaGreatDoor
open Go.RowKit

/-- Marks: block D has no call. -/
def mk (D : Nat) : Deferred := { target := .collected D, args := #[] }
/-- Marks at Ds, apart from each other, in blocks from n0 on. -/
def Marks (n0 : Nat) (Ds : List Nat) (w : World) : Prop := Ds.Pairwise (· ≠ ·) ∧ ∀ D, D ∈ Ds → n0 ≤ D ∧ D < w.heap.size ∧ w.heap[D]? = some (.deferred (some []))
theorem Marks.nil (n0 : Nat) (w : World) : Marks n0 [] w := ⟨.nil, fun _ h => by cases h⟩
theorem Marks.cons {n0 D : Nat} {Ds : List Nat} {w : World} (h : Marks n0 Ds w) (hD : w.heap[D]? = some (.deferred (some []))) (h0 : n0 ≤ D) (hn : ∀ E, E ∈ Ds → E < D) : Marks n0 (D :: Ds) w :=
  ⟨.cons (fun E hE => by have := hn E hE; omega) h.1, fun E hE => by
    rcases List.mem_cons.1 hE with rfl | h1
    · exact ⟨h0, (Array.getElem?_eq_some_iff.1 hD).1, hD⟩
    · exact h.2 E h1⟩
theorem Marks.ext {n0 : Nat} {Ds : List Nat} {w w' : World} (h : Marks n0 Ds w) (hx : Ext w w') : Marks n0 Ds w' :=
  ⟨h.1, fun D hD => by obtain ⟨h1, h2, h3⟩ := h.2 D hD; have := hx.size; exact ⟨h1, by omega, (hx.block h2).trans h3⟩⟩
/-- It lies on where blocks from B on turn alone. -/
theorem Marks.own {α : Type} (n0 B : Nat) (Ds : List Nat) (hB : ∀ D, D ∈ Ds → D < B) : OwnFrom B (fun (_ : α) W => Marks n0 Ds W) := fun _ X Y row hs hg hr =>
  ⟨hs.1, fun D hD => by
    obtain ⟨h1, h2, h3⟩ := hs.2 D hD
    have h4 := hg.size
    refine ⟨h1, by omega, (hg.block D h2 (fun e => ?_)).trans h3⟩
    have := (hr D e.symm).1; have := hB D hD; omega⟩
/-- Whatever are cells lies on. -/
structure CellsOn (w w' : World) : Prop where
  size : w.heap.size ≤ w'.heap.size
  same : ∀ (k : Nat) (cs : Array Value) (t : TypeId) (fr : Nat × Nat), w.heap[k]? = some (Obj.cells cs t fr) → w'.heap[k]? = some (Obj.cells cs t fr)
theorem CellsOn.refl (w : World) : CellsOn w w := ⟨Nat.le_refl _, fun _ _ _ _ h => h⟩
theorem CellsOn.trans {a b c : World} (h : CellsOn a b) (k : CellsOn b c) : CellsOn a c := ⟨Nat.le_trans h.size k.size, fun i cs t fr hi => k.same i cs t fr (h.same i cs t fr hi)⟩
theorem CellsOn.cell {w w' : World} {b o : Nat} {v : Value} (h : CellsOn w w') (hc : w.cell? ⟨b, o, none⟩ = some v) : w'.cell? ⟨b, o, none⟩ = some v := by
  unfold World.cell? at hc ⊢
  cases hb : w.heap[b]? with
  | none => simp [hb] at hc
  | some ob =>
    cases ob with
    | cells cs t fr =>
      have := h.same b cs t fr hb
      simp only [hb] at hc
      simp only [this]
      exact hc
    | _ => simp [hb] at hc
theorem CellsOn.ri {w w' : World} {A : Option Addr} {n : Nat} {zs : List Int} (h : CellsOn w w') (hr : RI w A n zs) : RI w' A n zs :=
  ⟨hr.1, hr.2.1, fun hn => let ⟨b, off, ha, hb, hc⟩ := hr.2.2 hn; ⟨b, off, ha, Nat.lt_of_lt_of_le hb h.size, fun k hk => h.cell (hc k hk)⟩⟩
/-- Out through the marks. -/
theorem leaves_marks {F : Fence} {n : Nat} {P : Program} {fn : Func} {tmps : Array Value} {R : Ending → World → Prop} {n0 : Nat} : ∀ (Ds : List Nat) (w : World), Marks n0 Ds w →
    (∀ w', Below n0 w w' → CellsOn w w' → ∃ v, (results fn tmps).run P w' = .ok v w' ∧ R (.returned v) w') → LeavesInM F n P fn tmps R (Ds.map mk) .returning w
  | [], w, _, h => by
    obtain ⟨v, h1, h2⟩ := h w (Below.refl _ _) (CellsOn.refl _)
    exact ⟨v, h1, h2⟩
  | D :: Ds, w, hm, h => by
    obtain ⟨h0, h1, h2⟩ := hm.2 D (.head _)
    obtain ⟨hne, hpw⟩ := List.pairwise_cons.1 hm.1
    refine ⟨by simp, .inl ⟨D, _, rfl, run_takeDeferred h2, leaves_marks (n0 := n0) Ds _ ⟨hpw, fun E hE => ?_⟩ fun w' hw' hc' => ?_⟩⟩
    · obtain ⟨g0, g1, g2⟩ := hm.2 E (.tail _ hE)
      exact ⟨g0, by simpa using g1, (World.putObj_heap_other (fun e => hne E hE e.symm)).trans g2⟩
    · refine h w' (Below.trans ?_ hw') (CellsOn.trans ⟨by simp, fun k cs t fr hk => ?_⟩ hc')
      · exact (Below.refl n0 w).grown (grownBy_putObj' w D _) (by omega) (fun k e => by cases e; omega)
      · exact (World.putObj_heap_other (fun e => by subst e; rw [h2] at hk; cases hk)).trans hk
/-- A frame's slots T, those that the mask names as U has them. -/
def over : List Bool → (Nat → Value) → Nat → List Value → List Value
  | true :: m, U, i, _ :: T => U i :: over m U (i + 1) T
  | false :: m, U, i, v :: T => v :: over m U (i + 1) T
  | _, _, _, T => T
/-- A loop whose rounds may leave marks. -/
theorem wp_loop_m {P : Program} {c : Code} {Q : Exit → Act → World → Prop} {w : World} (ds : List Bool) (s : Nat) (rel : (Nat → Value) → List Nat → World → Prop) (f : Value → Nat) {T : List Value} (Ds0 : List Nat)
    (hT : over ds (fun i => T.toArray.getD i undef) 0 T = T) (h0 : rel (fun i => T.toArray.getD i undef) Ds0 w)
    (round : ∀ U Ds w, rel U Ds w → c.wp P (Exit.then (fun a' w' => ∃ Ds', a'.defers = List.map mk Ds' ∧ a'.tmps = (over ds (fun i => a'.tmps.getD i undef) 0 T).toArray ∧ rel (fun i => a'.tmps.getD i undef) Ds' w' ∧ f (a'.tmps.getD s undef) < f (U s)) Q) ⟨(over ds U 0 T).toArray, List.map mk Ds⟩ w) :
    (Code.loop c).wp P Q ⟨T.toArray, List.map mk Ds0⟩ w := by
  refine wp_loop (fun a w => ∃ Ds, a.defers = List.map mk Ds ∧ a.tmps = (over ds (fun i => a.tmps.getD i undef) 0 T).toArray ∧ rel (fun i => a.tmps.getD i undef) Ds w) (fun a _ => f (a.tmps.getD s undef)) ⟨Ds0, rfl, by simp only; rw [hT], h0⟩ ?_
  rintro ⟨t, d⟩ w ⟨Ds, h1, h2, h3⟩
  simp only at h1 h2 h3
  have := round (fun i => t.getD i undef) Ds w h3
  rw [h1, h2]
  rw [← h2]
  rw [← h2] at this
  refine Code.wp_mono (fun e a w q => ?_) this
  cases e with
  | normal => obtain ⟨Ds', q1, q2, q3, q4⟩ := q; exact ⟨⟨Ds', q1, q2, q3⟩, q4⟩
  | _ => exact q
end Go.Proofs.YtccdnieoaejgdaaGreatDoor
namespace Go.Proofs.YtccdnieoaejgdaaGreatDoor
open Go.RowKit

end Go.Proofs.YtccdnieoaejgdaaGreatDoor
