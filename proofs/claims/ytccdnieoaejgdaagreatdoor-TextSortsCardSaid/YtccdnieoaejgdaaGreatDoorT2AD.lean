/-
  Walks: a fount and counts are checked (the program's check and CheckCase, the reference's Err and CheckCase).
  Walks: combined makes counts of two ones, sort by sort.
  Walks: sums of cases, what is left and what is lacking, metal.
  Walks: metal.
  Walks: the small helpers of the statements (Ints, CopyInts, Few).
  Walk: Times, how often a case suffices for a need.
  Walks: the sum of counts; the order of a bill's remainders (BillFor's closure).
  The library's stable sort at this program: at most 19 numbers, one block.
  The stable sort of a bill's order, as it lies in memory.
-/
import Derived.Test.YtccdnieoaejgdaaGreatDoorT2AC
import Derived.StillTailTactics
import Derived.Deep.AppendLies
import Derived.Deep.RegionHeld3
import Derived.Deep.RegionWith
import Derived.Shelf.SlSortCmp.Insertion
set_option linter.unusedVariables false
set_option linter.unusedSimpArgs false
set_option linter.unusedSectionVars false
namespace Go.Proofs.YtccdnieoaejgdaaGreatDoor
open Go.RowKit

/-- A slice of ints, as a value and as numbers. -/
structure SI where
  A : Option Addr
  c : Nat
  zs : List Int
def SI.val (s : SI) : Value := .slice s.A s.zs.length s.c
def SI.none_ : SI := ⟨none, 0, []⟩
end Go.Proofs.YtccdnieoaejgdaaGreatDoor
namespace Go.Proofs.YtccdnieoaejgdaaGreatDoor
open Go.RowKit

theorem intInfo : (Tryz.prog.info? 3).map (fun i => (i.zero, i.size, i.bytes)) = some (some (.int .i64 0), 1, 8) := by kernel_rfl
/-- v is a slice of the call's own (from block base on) that holds zs. -/
def Own (w : World) (base : Nat) (v : Value) (zs : List Int) : Prop := w.ownsRow base 3 1 v zs.length (zs.map (Value.int .i64))
theorem Own.nil (w : World) (base : Nat) : Own w base (.slice none 0 0) [] := World.ownsRow_nil _ _ _ _
theorem Own.form {w : World} {base : Nat} {v : Value} {zs : List Int} (h : Own w base v zs) (hz : zs.length ≤ 140737488351232) : ∃ A c, v = .slice A zs.length c ∧ zs.length ≤ c ∧ RI w A zs.length zs := by
  rcases Nat.eq_zero_or_pos zs.length with h0 | h0
  · obtain rfl := List.eq_nil_of_length_eq_zero h0
    rcases h.2 with ⟨rfl, _⟩ | ⟨g, cap, cur, rfl, _⟩
    · exact ⟨none, 0, rfl, by simp, RI.nil⟩
    · exact ⟨_, cap, rfl, by simp, rfl, by simp, fun h => absurd h (by simp)⟩
  · obtain ⟨g, cap, hv, hg, hlt⟩ := World.ownsRow.form h h0
    subst hv
    have hc := World.ownsRow.cells (g := g) h rfl
    rcases h.2 with ⟨hv, _⟩ | ⟨g', cap', cur, hv, _, _, hcap, _⟩
    · cases hv
    · cases hv
      refine ⟨_, cap, rfl, by omega, rfl, by omega, fun _ => ⟨g, 0, rfl, hlt, fun k hk => ?_⟩⟩
      have := hc k (.int .i64 (zs.getD k 0)) (by rw [List.getElem?_map, List.getElem?_eq_getElem hk, List.getD_eq_getElem?_getD, List.getElem?_eq_getElem hk]; rfl)
      rw [show (0 + k) = k by omega]
      unfold Addr.add at this
      by_cases hk0 : k = 0
      · subst hk0; simpa using this
      · rw [if_neg hk0] at this; simpa using this
theorem Own.base_le {w : World} {base : Nat} {v : Value} {zs : List Int} (h : Own w base v zs) : ∀ k, v.ownBlock = some k → base ≤ k := fun k hk => (World.ownsRow.lt h k hk).1
/-- The call hands back a new slice of ints. -/
def RetI (zs : List Int) (w : World) (e : Ending) (w' : World) : Prop := ∃ v, e = .returned v ∧ Own w' w.heap.size v zs ∧ Ext w w'

/-- One number is appended to a slice of the call's own. -/
theorem run_push {w : World} {base : Nat} {v : Value} {zs : List Int} {g0 : Nat} {z : Int} (hown : Own w base v zs) (hb : w.cell? ⟨g0, 0, none⟩ = some (.int .i64 z)) (hlen : zs.length ≤ 1000000) (hbase : base ≤ w.heap.size) (ty : TypeId) :
    ∃ v' w', (Builtin.append_ #[27, 27] ty #[v, .slice (some ⟨g0, 0, none⟩) 1 1]).run Tryz.prog w = .ok v' w' ∧ Own w' base v' (zs ++ [z]) ∧ w.grownBy w' v.ownBlock := by
  obtain ⟨i0, hi, hz0, hz1, hz2⟩ := info_parts intInfo
  obtain ⟨g, cap, w', hr, h2, h3, _⟩ := run_append_lies (P := Tryz.prog) w 27 ty base 3 i0 (.int .i64 0) 1 8 Tryz.underlying27 hi hz0 hz1 hz2 rfl (by decide) v zs.length _ hown ⟨g0, 0, none⟩ 1 1 [.int .i64 z] rfl
    (fun j u hj => by match j, hj with | 0, hj => simp at hj; subst hj; simpa [Addr.add] using hb) (fun u hu => by simp at hu; subst hu; rfl) (by decide) (by unfold maxLen; omega) (by omega) hbase _ rfl
  exact ⟨_, w', hr, by unfold Own; simpa using h2, h3⟩
theorem wp_push {w : World} {o : Oper} {a : Act} {K : Act → World → Prop} {Q : Exit → Act → World → Prop} (s x : Operand) (ho : o.op = .call { callee := .builtin .append, args := #[s, x], argTypes := #[27, 27] })
    (base : Nat) (v : Value) (zs : List Int) (hs : a.eval s = v) (hown : Own w base v zs) (g0 : Nat) (z : Int) (hx : a.eval x = .slice (some ⟨g0, 0, none⟩) 1 1) (hb : w.cell? ⟨g0, 0, none⟩ = some (.int .i64 z)) (hlen : zs.length ≤ 1000000) (hbase : base ≤ w.heap.size)
    (h : ∀ v' w', Own w' base v' (zs ++ [z]) → w.grownBy w' v.ownBlock → K (a.put o.dst v') w') : o.wp Tryz.prog a w K Q := by
  obtain ⟨v', w', hr, h2, h3⟩ := run_push hown hb hlen hbase o.type
  unfold Oper.wp execOp
  simp only [ho, resolve, invoke, builtin, Sem.run_bind, Sem.run_pure, Result.andThen_ok, List.map_toArray, List.map_cons, List.map_nil, hs, hx, hr]
  exact h v' w' h2 h3
theorem list_push {w : World} {ops : Array Oper} {rest : List Oper} {o : Oper} {a : Act} {Q : Exit → Act → World → Prop} (hgd : o.guard = none) (s x : Operand) (ho : o.op = .call { callee := .builtin .append, args := #[s, x], argTypes := #[27, 27] })
    (base : Nat) (v : Value) (zs : List Int) (hs : a.eval s = v) (hown : Own w base v zs) (g0 : Nat) (z : Int) (hx : a.eval x = .slice (some ⟨g0, 0, none⟩) 1 1) (hb : w.cell? ⟨g0, 0, none⟩ = some (.int .i64 z)) (hlen : zs.length ≤ 1000000) (hbase : base ≤ w.heap.size)
    (h : ∀ v' w', Own w' base v' (zs ++ [z]) → w.grownBy w' v.ownBlock → wpList Tryz.prog ops Q rest (a.put o.dst v') w') : wpList Tryz.prog ops Q (o :: rest) a w :=
  wpList_plain hgd fun _ hK => wp_push s x ho base v zs hs hown g0 z hx hb hlen hbase fun v' w' h2 h3 => hK _ _ (h v' w' h2 h3)
theorem Own.ext {w w' : World} {base : Nat} {v : Value} {zs : List Int} (h : Own w base v zs) (hx : Ext w w') : Own w' base v zs := by
  refine World.ownsRow.kept (row := none) h ⟨hx.os, hx.tape, hx.output, hx.size, fun k hk _ => hx.block hk⟩ ?_
  cases hv : v.ownBlock with
  | none => exact .inl rfl
  | some g => exact .inr (by simp)
theorem Own.alloc {w : World} {base : Nat} {v : Value} {zs : List Int} (h : Own w base v zs) (o : Obj) : Own (w.alloc o) base v zs := World.ownsRow.alloc h o
theorem own_ext {w0 W w' : World} {v : Value} {zs : List Int} (hg : W.grownBy w' v.ownBlock) (hown : Own W w0.heap.size v zs) (hx : Ext w0 W) : Ext w0 w' := hx.grown hg hown.base_le
/-! The four ways to make one count of two. -/
end Go.Proofs.YtccdnieoaejgdaaGreatDoor
namespace Go.Proofs.YtccdnieoaejgdaaGreatDoor
open Go.RowKit

theorem chk_zero {f : FT} (h : (chk f).2 = 0) : (1 ≤ f.body ∧ f.body ≤ 144) ∧ 1 ≤ f.sorts.length ∧ f.sorts.length ≤ 120 ∧ cleanTo f.sorts f.sorts.length := by
  unfold chk at h
  by_cases h1 : nameB f.name = false
  · rw [if_pos h1] at h; exact absurd h (by decide)
  rw [if_neg h1] at h
  by_cases h2 : ¬ (1 ≤ f.body ∧ f.body ≤ 144)
  · rw [if_pos h2] at h; exact absurd h (by decide)
  rw [if_neg h2] at h
  by_cases h3 : f.sorts.length = 0
  · rw [if_pos h3] at h; exact absurd h (by decide)
  rw [if_neg h3] at h
  by_cases h4 : 120 < f.sorts.length
  · rw [if_pos h4] at h; exact absurd h (by decide)
  rw [if_neg h4] at h
  refine ⟨by simpa using h2, by omega, by omega, ?_⟩
  have key : ∀ n, (match firstBad f.sorts n with | some k => ((k : Int), sortErr f.sorts k (f.sorts.getD k TS.zero)) | none => (0, 0)).2 = 0 → cleanTo f.sorts n := by
    intro n
    induction n with
    | zero => intro _ k hk; omega
    | succ n ih =>
      intro hh
      rw [firstBad] at hh
      cases hb : firstBad f.sorts n with
      | some k => rw [hb] at hh ih; exact absurd hh (by
          simp only at hh ih ⊢
          intro hz
          have hc := ih hz
          rw [firstBad_none hc] at hb; cases hb)
      | none =>
        rw [hb] at hh ih
        have hc := ih rfl
        simp only at hh
        by_cases hs : sortErr f.sorts n (f.sorts.getD n TS.zero) = 0
        · exact cleanTo_succ hc hs
        · rw [if_neg hs] at hh; exact absurd hh hs
  exact key _ h
theorem sort_zero {ss : List TS} {n : Nat} {x : TS} (h : sortErr ss n x = 0) : nameB x.name = true ∧ hasName ss n x.name = false ∧ (1 ≤ x.kind ∧ x.kind ≤ 3) ∧ (1 ≤ x.width ∧ x.width ≤ 100000) ∧ textErr ss n x.kind x.text = 0 := by
  unfold sortErr at h
  by_cases h1 : nameB x.name = false
  · rw [if_pos h1] at h; exact absurd h (by decide)
  rw [if_neg h1] at h
  by_cases h2 : hasName ss n x.name = true
  · rw [if_pos h2] at h; exact absurd h (by decide)
  rw [if_neg h2] at h
  by_cases h3 : ¬ (1 ≤ x.kind ∧ x.kind ≤ 3)
  · rw [if_pos h3] at h; exact absurd h (by decide)
  rw [if_neg h3] at h
  by_cases h4 : ¬ (1 ≤ x.width ∧ x.width ≤ 100000)
  · rw [if_pos h4] at h; exact absurd h (by decide)
  rw [if_neg h4] at h
  exact ⟨by simpa using h1, by simpa using h2, by simpa using h3, by simpa using h4, h⟩
/-- A slice of the call's own, read and owned. -/
structure SL (w : World) (base : Nat) (A : Option Addr) (c : Nat) (zs : List Int) : Prop where
  own : Own w base (.slice A zs.length c) zs
  ri : RI w A zs.length zs
  cap : zs.length ≤ c
theorem SL.nil (w : World) (base : Nat) : SL w base none 0 [] := ⟨Own.nil _ _, RI.nil, Nat.le_refl _⟩
theorem SL.of_own {w : World} {base c : Nat} {A : Option Addr} {zs : List Int} (h : Own w base (.slice A zs.length c) zs) (hz : zs.length ≤ 1000000) : SL w base A c zs := by
  obtain ⟨A', c', he, hc, hr⟩ := h.form (by omega)
  obtain ⟨e1, _, e3⟩ := Value.slice.inj he
  subst e1 e3
  exact ⟨h, hr, hc⟩
theorem SL.ext {w w' : World} {base c : Nat} {A : Option Addr} {zs : List Int} (h : SL w base A c zs) (hx : Ext w w') : SL w' base A c zs := ⟨h.own.ext hx, h.ri.ext hx, h.cap⟩
theorem SL.mono {w : World} {base base' c : Nat} {A : Option Addr} {zs : List Int} (h : SL w base A c zs) (hb : base' ≤ base) : SL w base' A c zs := by
  refine ⟨⟨h.own.1, ?_⟩, h.ri, h.cap⟩
  rcases h.own.2 with h' | ⟨g, cap, cur, hv, hg, r⟩
  · exact .inl h'
  · exact .inr ⟨g, cap, cur, hv, by omega, r⟩
/-- The call hands back a new slice; with an error; with a number and an error. -/
def RetS (zs : List Int) (w : World) (e : Ending) (w' : World) : Prop := ∃ A c, e = .returned (.slice A zs.length c) ∧ SL w' w.heap.size A c zs ∧ Ext w w'
def RetSE (zs : List Int) (z : Int) (w : World) (e : Ending) (w' : World) : Prop := ∃ A c, e = .returned (.tuple #[.slice A zs.length c, .int .i64 z]) ∧ SL w' w.heap.size A c zs ∧ Ext w w'
def neg (z : Int) : Bool := decide (z < 0)
end Go.Proofs.YtccdnieoaejgdaaGreatDoor
namespace Go.Proofs.YtccdnieoaejgdaaGreatDoor
open Go.RowKit

def sumTo (g : Nat → Int) : Nat → Int | 0 => 0 | n + 1 => sumTo g n + g n
end Go.Proofs.YtccdnieoaejgdaaGreatDoor
namespace Go.Proofs.YtccdnieoaejgdaaGreatDoor
open Go.RowKit

def sameTo (xs ys : List Int) (n : Nat) : Prop := ∀ j, j < n → xs.getD j 0 = ys.getD j 0
theorem list_ext_getD {xs ys : List Int} (hl : xs.length = ys.length) (h : sameTo xs ys xs.length) : xs = ys := by
  apply List.ext_getElem hl
  intro i h1 h2
  have := h i h1
  rwa [List.getD_eq_getElem?_getD, List.getD_eq_getElem?_getD, List.getElem?_eq_getElem h1, List.getElem?_eq_getElem h2] at this
set_option maxHeartbeats 1000000 in
theorem ints_any (A B : Option Addr) (c d : Nat) (xs ys : List Int) (w : World) (hx : RI w A xs.length xs) (hy : RI w B ys.length ys) :
    Calls Tryz.prog 19 #[.slice A xs.length c, .slice B ys.length d] w (Ret (.bool (decide (xs = ys))) w) := by
  have hbx := hx.big; have hby := hy.big
  by_cases hl : xs.length = ys.length
  · have e1 : ((xs.length : Int) != (ys.length : Int)) = false := by simp [hl]
    have HL := Lib.hid hl; clear hl
    have HX := Lib.hid hx; have HY := Lib.hid hy; clear hx hy
    go_enter Tryz.func19, Tryz.ntmps19
    go_wp2
    go_loopw [5] (fun i wr => ∃ k : Nat, k ≤ xs.length ∧ i = .int .i64 k ∧ sameTo xs ys k ∧ Ext w wr) (fun i _ => xs.length - (intOf i).toNat)
    case atStart => exact ⟨0, Nat.zero_le _, rfl, fun j hj => absurd hj (by omega), Ext.refl _⟩
    case round =>
      obtain ⟨k, hk, rfl, hs, hxt⟩ := hrel
      have HS := Lib.hid hs; clear hs
      by_cases hlt : k < xs.length
      · have hlt' : k < ys.length := by have := HL.out; omega
        obtain ⟨b, off, rfl, hbw, hcell⟩ := (HX.out.ext hxt).2.2 (by omega)
        obtain ⟨b', off', rfl, hbw', hcell'⟩ := (HY.out.ext hxt).2.2 (by omega)
        have c1 := hcell k hlt
        have c2 := hcell' k hlt'
        have i1 : (k : Int) < (xs.length : Int) := by omega
        have i2 : (k : Int) < (ys.length : Int) := by omega
        have HK : Hid (xs.getD k 0 = ys.getD k 0 → sameTo xs ys (k + 1)) := Lib.hid (fun he j hj => by
          by_cases hj' : j < k
          · exact HS.out j hj'
          · obtain rfl : j = k := by omega
            exact he)
        have HD : Hid (xs.getD k 0 ≠ ys.getD k 0 → ¬ xs = ys) := Lib.hid (fun he hh => he (by rw [hh]))
        generalize xs.getD k 0 = x at *
        generalize ys.getD k 0 = y at *
        have HXT := Lib.hid hxt; clear hxt hcell hcell'
        by_cases he : x = y
        · subst he
          go_wp2
          go_quiet (fail)
          go_wp2
          go_roundw
          case rel => exact ⟨k + 1, by omega, by go_num, HK.out (by first | exact rfl | trivial), HXT.out.trans (by repeat (first | exact Ext.refl _ | assumption | refine Ext.alloc ?_ _ | refine Ext.drew ?_ | refine Ext.drewN ?_ _ | (refine Ext.setCell ?_ (by simp <;> omega) _) | refine Ext.trans ?_ (by assumption)))⟩
          case measure => simp [intOf]; omega
        · have e0 : (x != y) = true := by simpa using he
          have HE := Lib.hid he; clear he
          go_wp2
          go_quiet (fail)
          go_wp2
          go_ret
          exact Ret.mk' (by rw [decide_eq_false (HD.out HE.out)]; rfl) (HXT.out.trans (by repeat (first | exact Ext.refl _ | assumption | refine Ext.alloc ?_ _ | refine Ext.drew ?_ | refine Ext.drewN ?_ _ | (refine Ext.setCell ?_ (by simp <;> omega) _) | refine Ext.trans ?_ (by assumption))))
      · obtain rfl : k = xs.length := by omega
        have HEQ := Lib.hid (list_ext_getD HL.out HS.out)
        have HXT := Lib.hid hxt; clear hxt
        go_wp2
        go_ret
        exact Ret.mk' (by rw [decide_eq_true HEQ.out]; rfl) HXT.out
  · have e1 : ((xs.length : Int) != (ys.length : Int)) = true := by simp; omega
    have HL := Lib.hid hl; clear hl
    go_enter Tryz.func19, Tryz.ntmps19
    go_wp2
    go_ret
    exact Ret.mk' (by rw [decide_eq_false (fun hh => HL.out (by rw [hh]))]; rfl) (by repeat (first | exact Ext.refl _ | assumption | refine Ext.alloc ?_ _ | refine Ext.drew ?_ | refine Ext.drewN ?_ _ | (refine Ext.setCell ?_ (by simp <;> omega) _) | refine Ext.trans ?_ (by assumption)))

end Go.Proofs.YtccdnieoaejgdaaGreatDoor
namespace Go.Proofs.YtccdnieoaejgdaaGreatDoor
open Go.RowKit

end Go.Proofs.YtccdnieoaejgdaaGreatDoor
namespace Go.Proofs.YtccdnieoaejgdaaGreatDoor
open Go.RowKit

def sumZ (zs : List Int) (n : Nat) : Int := sumTo (fun k => zs.getD k 0) n
end Go.Proofs.YtccdnieoaejgdaaGreatDoor
namespace Go.Proofs.YtccdnieoaejgdaaGreatDoor
open Go.RowKit Go.Shelf Go.Sort Go.Proofs
section
variable (m : Nat) (cf : Fin (m + 1) → Fin (m + 1) → Int) (g : Nat) (cb : Array Value) (blk cap : Nat) (d : Array (Fin (m + 1))) (w : World)
end
end Go.Proofs.YtccdnieoaejgdaaGreatDoor
namespace Go.Proofs.YtccdnieoaejgdaaGreatDoor
open Go.RowKit Go.Shelf Go.Sort Go.Proofs

section
variable {α : Type} [Inhabited α] (lt : α → α → Bool)
end

end Go.Proofs.YtccdnieoaejgdaaGreatDoor
