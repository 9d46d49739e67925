/-
  Walks: the small helpers of the statements (Ints, CopyInts, Few).
  Walk: Times, how often a case suffices for a need.
  Walks: the fount of the examples, and which founts a statement looks at.
  Arguments opened: a fount, a slice of ints, a slice of slices of ints, as they lie in memory when the call begins.
  Plain law: a case parted by several needs and joined again is the case, and its metal is that of all parts together.
  Plain law: how often a need can be taken: the least quotient, and the first sort that has it.
  Law of the walk: a new slice of so many zeros.
  Walks: the em, greatest common divisors, fractions in lowest terms.
-/
import Derived.Test.YtfbdklminljecaaGreatDoorGB
import Derived.ProofKit
import Derived.OpenShut
import Derived.ShutString
import Derived.ChangeOld
import Derived.ChangeSame
import Derived.Lib.SmallJoins
import Derived.Deep.Slices
import Derived.Deep.Fields
import Derived.Deep.Matrix
import Derived.StillTailTactics
namespace Go.Proofs.YtfbdklminljecaaGreatDoor
open Go.RowKit

def sameTo (xs ys : List Int) (n : Nat) : Prop := ∀ j, j < n → xs.getD j 0 = ys.getD j 0
theorem list_ext_getD {xs ys : List Int} (hl : xs.length = ys.length) (h : sameTo xs ys xs.length) : xs = ys := by
  apply List.ext_getElem hl
  intro i h1 h2
  have := h i h1
  rwa [List.getD_eq_getElem?_getD, List.getD_eq_getElem?_getD, List.getElem?_eq_getElem h1, List.getElem?_eq_getElem h2] at this
/-- A slice that reads as xs is appended to a slice of the call's own. -/
theorem run_appendI {w : World} {base : Nat} {v : Value} {zs xs : List Int} {A : Option Addr} {c : Nat} (hown : Own w base v zs) (hr : RI w A xs.length xs) (hlen : zs.length + xs.length ≤ 1000000) (hbase : base ≤ w.heap.size) (ty : TypeId) :
    ∃ v' w', (Builtin.append_ #[25, 25] ty #[v, .slice A xs.length c]).run Tryz.prog w = .ok v' w' ∧ Own w' base v' (zs ++ xs) ∧ w.grownBy w' v.ownBlock := by
  obtain ⟨i0, hi, hz0, hz1, hz2⟩ := info_parts intInfo
  rcases A with _ | ad
  · have hm : xs.length = 0 := by
      rcases Nat.eq_zero_or_pos xs.length with h0 | h0
      · exact h0
      · obtain ⟨b, off, h, _⟩ := hr.2.2 h0
        cases h
    obtain rfl := List.eq_nil_of_length_eq_zero hm
    refine ⟨v, w, ?_, by simpa using hown, World.grownBy.refl w _⟩
    rcases hown.2 with ⟨rfl, _⟩ | ⟨g, cap, cur, rfl, _, _, hnc, _⟩
    · simp [Builtin.append_, run_underlying Tryz.underlying25, sizeOf, typeInfo, hi, Builtin.lenOf, Builtin.firstCells]
    · simp [Builtin.append_, run_underlying Tryz.underlying25, sizeOf, typeInfo, hi, Builtin.lenOf, Builtin.firstCells, hnc, storeCells]
  · obtain ⟨v', w', hrun, h2, h3, _⟩ := run_append_own_at (P := Tryz.prog) w base 25 ty 3 i0 (.int .i64 0) 1 8 Tryz.underlying25 hi hz0 hz1 hz2 rfl (by decide) v zs.length _ hown ad xs.length c (xs.map (Value.int .i64)) (by simp)
      (fun j u hj => by
        rw [List.getElem?_map] at hj
        have hjl : j < xs.length := by
          rcases Nat.lt_or_ge j xs.length with h | h
          · exact h
          · rw [List.getElem?_eq_none h] at hj; cases hj
        rw [List.getElem?_eq_getElem hjl] at hj
        obtain ⟨b, off, he, _, hc⟩ := hr.2.2 (by omega)
        cases he
        have := hc j hjl
        rw [List.getD_eq_getElem?_getD, List.getElem?_eq_getElem hjl, Option.getD_some] at this
        simp only [Option.map_some] at hj
        cases hj
        unfold Addr.add
        by_cases hj0 : j = 0
        · rw [if_pos hj0]; have e : off + j = off := by omega
          rw [e] at this; exact this
        · rw [if_neg hj0]; exact this)
      (fun u hu => by obtain ⟨z, _, rfl⟩ := List.mem_map.1 hu; rfl) (by unfold maxLen; omega) (by omega) hbase
    exact ⟨v', w', hrun, by unfold Own; simpa using h2, h3⟩
theorem list_appendI {w : World} {ops : Array Oper} {rest : List Oper} {o : Oper} {a : Act} {Q : Exit → Act → World → Prop} (hgd : o.guard = none) (s x : Operand) (ho : o.op = .call { callee := .builtin .append, args := #[s, x], argTypes := #[25, 25] })
    (base : Nat) (v : Value) (zs : List Int) (hs : a.eval s = v) (hown : Own w base v zs) (A : Option Addr) (c : Nat) (xs : List Int) (hx : a.eval x = .slice A xs.length c) (hr : RI w A xs.length xs) (hlen : zs.length + xs.length ≤ 1000000) (hbase : base ≤ w.heap.size)
    (h : ∀ v' w', Own w' base v' (zs ++ xs) → w.grownBy w' v.ownBlock → wpList Tryz.prog ops Q rest (a.put o.dst v') w') : wpList Tryz.prog ops Q (o :: rest) a w := by
  refine wpList_plain hgd fun K hK => ?_
  obtain ⟨v', w', hr', h2, h3⟩ := run_appendI (c := c) hown hr hlen hbase o.type
  unfold Oper.wp execOp
  simp only [ho, resolve, invoke, builtin, Sem.run_bind, Sem.run_pure, Result.andThen_ok, List.map_toArray, List.map_cons, List.map_nil, hs, hx, hr']
  exact hK _ _ (h v' w' h2 h3)
theorem Own.lit0 (w : World) : Own (w.alloc (.cells #[] 3)) w.heap.size (.slice (some ⟨w.heap.size, 0, none⟩) 0 0) [] :=
  World.ownsRow_lit (e := 3) (size := 1) w #[] 0 (Nat.le_refl _) (by unfold maxLen; omega) rfl
end Go.Proofs.YtfbdklminljecaaGreatDoor
namespace Go.Proofs.YtfbdklminljecaaGreatDoor
open Go.RowKit

def timesTo (cs ns : List Int) : Nat → Int × Nat
  | 0 => (-1, 0)
  | k + 1 => if 0 < ns.getD k 0 ∧ ((timesTo cs ns k).1 < 0 ∨ cs.getD k 0 / ns.getD k 0 < (timesTo cs ns k).1) then (cs.getD k 0 / ns.getD k 0, k) else timesTo cs ns k
def timesR (f : FT) (cs ns : List Int) : Int × Int × Int :=
  if caseErr2 f cs ns ≠ 0 then (0, 0, caseErr2 f cs ns) else if (timesTo cs ns ns.length).1 < 0 then (0, 0, 11) else ((timesTo cs ns ns.length).1, ((timesTo cs ns ns.length).2 : Int), 0)
def timesV (f : FT) (cs ns : List Int) : Value := .tuple #[.int .i64 (timesR f cs ns).1, .int .i64 (timesR f cs ns).2.1, .int .i64 (timesR f cs ns).2.2]
end Go.Proofs.YtfbdklminljecaaGreatDoor
namespace Go.Proofs.YtfbdklminljecaaGreatDoor
open Go.RowKit

def roman : FT := ⟨⟨#[114, 111, 109]⟩, 10, [⟨⟨#[97]⟩, ⟨#[97]⟩, 1, 300⟩, ⟨⟨#[98]⟩, ⟨#[98]⟩, 1, 330⟩, ⟨⟨#[102, 105]⟩, ⟨#[102, 105]⟩, 2, 360⟩, ⟨⟨#[116, 104, 105, 99, 107]⟩, ⟨#[]⟩, 3, 200⟩, ⟨⟨#[116, 104, 105, 110]⟩, ⟨#[]⟩, 3, 120⟩]⟩
/-- The call hands back a fount that reads as f. -/
def RetF (f : FT) (w : World) (e : Ending) (w' : World) : Prop := ∃ A c, e = .returned (f.val A c) ∧ FR w' A c f ∧ Ext w w'
theorem roman_sz : ∀ k, k < 5 → (roman.sorts.getD k TS.zero).name.size ≤ maxLen ∧ (roman.sorts.getD k TS.zero).text.size ≤ maxLen ∧ I64 (roman.sorts.getD k TS.zero).kind ∧ I64 (roman.sorts.getD k TS.zero).width := by
  intro k hk
  rcases (show k = 0 ∨ k = 1 ∨ k = 2 ∨ k = 3 ∨ k = 4 by omega) with rfl | rfl | rfl | rfl | rfl <;> exact ⟨by decide, by decide, by unfold I64; decide, by unfold I64; decide⟩
/-- Few: at most 10 sorts, or too many, with short names and texts. -/
def shortTo (ss : List TS) (n : Nat) : Prop := ∀ k, k < n → (ss.getD k TS.zero).name.size ≤ 20 ∧ (ss.getD k TS.zero).text.size ≤ 10
def FewP (f : FT) : Prop := f.name.size ≤ 20 ∧ (f.sorts.length ≤ 10 ∨ (120 < f.sorts.length ∧ f.sorts.length ≤ 123)) ∧ shortTo f.sorts f.sorts.length
def fewB (f : FT) : Bool := decide (f.name.size ≤ 20) && (decide (f.sorts.length ≤ 10) || (decide (120 < f.sorts.length) && decide (f.sorts.length ≤ 123))) && (List.range f.sorts.length).all fun k => decide ((f.sorts.getD k TS.zero).name.size ≤ 20) && decide ((f.sorts.getD k TS.zero).text.size ≤ 10)
theorem fewB_true {f : FT} : fewB f = true ↔ FewP f := by
  unfold fewB FewP shortTo
  simp only [Bool.and_eq_true, Bool.or_eq_true, decide_eq_true_eq, List.all_eq_true, List.mem_range, and_assoc]
theorem fewB_false {f : FT} : fewB f = false ↔ ¬ FewP f := by rw [← fewB_true, Bool.not_eq_true]
set_option maxHeartbeats 2000000 in
set_option maxRecDepth 100000 in
theorem few_any (f : FT) (A : Option Addr) (c : Nat) (w : World) (hf : FR w A c f) :
    Calls Tryz.prog 5 #[f.val A c] w (Ret (.bool (fewB f)) w) := by
  have HT := Lib.hid (@fewB_true f)
  have HN := Lib.hid (@fewB_false f)
  have hP : Hid (FewP f ↔ f.name.size ≤ 20 ∧ (f.sorts.length ≤ 10 ∨ (120 < f.sorts.length ∧ f.sorts.length ≤ 123)) ∧ shortTo f.sorts f.sorts.length) := Lib.hid Iff.rfl
  have hbig := hf.rt.big
  have hnm := hf.nm
  have HF := Lib.hid hf; clear hf
  generalize fewB f = r at *
  generalize FewP f = P at *
  obtain ⟨name, body, ss⟩ := f
  simp only [FT.val, maxLen] at *
  by_cases hs : name.size ≤ 20 ∧ (ss.length ≤ 10 ∨ (120 < ss.length ∧ ss.length ≤ 123))
  · obtain ⟨hs1, hs2⟩ := hs
    have i1 : ¬ (20 : Int) < (name.size : Int) := by omega
    have go : ∀ (u : Unit), Calls Tryz.prog 5 #[.agg #[.string name, .int .i64 body, .slice A ss.length c]] w (Ret (.bool r) w) := fun _ => by
      rcases hs2 with h2 | ⟨h2, h3⟩
      all_goals
        first
          | (have i2 : ¬ (10 : Int) < (ss.length : Int) := by omega
             have i3 : ¬ (123 : Int) < (ss.length : Int) := by omega)
          | (have i2 : (10 : Int) < (ss.length : Int) := by omega
             have i3 : ¬ (ss.length : Int) ≤ 120 := by omega
             have i4 : ¬ (123 : Int) < (ss.length : Int) := by omega)
        have HS : Hid (ss.length ≤ 10 ∨ (120 < ss.length ∧ ss.length ≤ 123)) := Lib.hid (by omega)
        go_enter Tryz.func5, Tryz.ntmps5
        go_wp2
        go_loop [3] (fun i => ∃ k : Nat, k ≤ ss.length ∧ i = .int .i64 k ∧ shortTo ss k) (fun i => ss.length - (intOf i).toNat)
        case atStart => exact ⟨0, Nat.zero_le _, rfl, fun j hj => absurd hj (by omega)⟩
        case round =>
          obtain ⟨k, hk, rfl, hsh⟩ := hrel
          have HSH := Lib.hid hsh; clear hsh
          by_cases hlt : k < ss.length
          · obtain ⟨b, off, rfl, hbw, hcell⟩ := (HF.out.rt.ext (by repeat (first | exact Ext.refl _ | assumption | refine Ext.alloc ?_ _ | refine Ext.drew ?_ | refine Ext.drewN ?_ _ | (refine Ext.setCell ?_ (by simp <;> omega) _) | refine Ext.trans ?_ (by assumption))) : RT (w.alloc (.cells #[.string name, .int .i64 body, .slice A ss.length c] 24)) A ss.length ss).2.2 (by show 0 < ss.length; omega)
            obtain ⟨c1, c2, _, _⟩ := hcell k hlt
            have hki : (k : Int) < (ss.length : Int) := by omega
            have HK : Hid ((ss.getD k TS.zero).name.size ≤ 20 ∧ (ss.getD k TS.zero).text.size ≤ 10 → shortTo ss (k + 1)) := Lib.hid (fun he j hj => by
              by_cases hj' : j < k
              · exact HSH.out j hj'
              · obtain rfl : j = k := by omega
                exact he)
            have HB : Hid (¬ ((ss.getD k TS.zero).name.size ≤ 20 ∧ (ss.getD k TS.zero).text.size ≤ 10) → r = false) := Lib.hid (fun he => HN.out.2 (fun h => he ((hP.out.1 h).2.2 k hlt)))
            generalize ss.getD k TS.zero = x at *
            clear hcell
            by_cases hx : x.name.size ≤ 20
            · have j1 : ¬ (20 : Int) < (x.name.size : Int) := by omega
              by_cases hy : x.text.size ≤ 10
              · have j2 : ¬ (10 : Int) < (x.text.size : Int) := by omega
                go_wp2
                go_round
                case rel => exact ⟨k + 1, by omega, by go_num, HK.out ⟨hx, hy⟩⟩
                case measure => simp [intOf]; omega
              · have j2 : (10 : Int) < (x.text.size : Int) := by omega
                go_wp2
                go_ret
                exact Ret.mk' (by rw [HB.out (fun h => hy h.2)]; rfl) (by repeat (first | exact Ext.refl _ | assumption | refine Ext.alloc ?_ _ | refine Ext.drew ?_ | refine Ext.drewN ?_ _ | (refine Ext.setCell ?_ (by simp <;> omega) _) | refine Ext.trans ?_ (by assumption)))
            · have j1 : (20 : Int) < (x.name.size : Int) := by omega
              go_wp2
              go_ret
              exact Ret.mk' (by rw [HB.out (fun h => hx h.1)]; rfl) (by repeat (first | exact Ext.refl _ | assumption | refine Ext.alloc ?_ _ | refine Ext.drew ?_ | refine Ext.drewN ?_ _ | (refine Ext.setCell ?_ (by simp <;> omega) _) | refine Ext.trans ?_ (by assumption)))
          · obtain rfl : k = ss.length := by omega
            have HR : Hid (r = true) := Lib.hid (HT.out.2 (hP.out.2 ⟨hs1, HS.out, HSH.out⟩))
            go_wp2
            go_ret
            exact Ret.mk' (by rw [HR.out]; rfl) (by repeat (first | exact Ext.refl _ | assumption | refine Ext.alloc ?_ _ | refine Ext.drew ?_ | refine Ext.drewN ?_ _ | (refine Ext.setCell ?_ (by simp <;> omega) _) | refine Ext.trans ?_ (by assumption)))
    exact go ()
  · have HR : Hid (r = false) := Lib.hid (HN.out.2 (fun h => hs ⟨(hP.out.1 h).1, (hP.out.1 h).2.1⟩))
    by_cases h1 : name.size ≤ 20
    · have i1 : ¬ (20 : Int) < (name.size : Int) := by omega
      by_cases h2 : ss.length ≤ 120
      · have i2 : (10 : Int) < (ss.length : Int) := by omega
        have i3 : (ss.length : Int) ≤ 120 := by omega
        go_enter Tryz.func5, Tryz.ntmps5
        go_wp2
        go_ret
        exact Ret.mk' (by rw [HR.out]; rfl) (by repeat (first | exact Ext.refl _ | assumption | refine Ext.alloc ?_ _ | refine Ext.drew ?_ | refine Ext.drewN ?_ _ | (refine Ext.setCell ?_ (by simp <;> omega) _) | refine Ext.trans ?_ (by assumption)))
      · have i2 : (10 : Int) < (ss.length : Int) := by omega
        have i3 : ¬ (ss.length : Int) ≤ 120 := by omega
        have i4 : (123 : Int) < (ss.length : Int) := by omega
        go_enter Tryz.func5, Tryz.ntmps5
        go_wp2
        go_ret
        exact Ret.mk' (by rw [HR.out]; rfl) (by repeat (first | exact Ext.refl _ | assumption | refine Ext.alloc ?_ _ | refine Ext.drew ?_ | refine Ext.drewN ?_ _ | (refine Ext.setCell ?_ (by simp <;> omega) _) | refine Ext.trans ?_ (by assumption)))
    · have i1 : (20 : Int) < (name.size : Int) := by omega
      go_enter Tryz.func5, Tryz.ntmps5
      go_wp2
      go_ret
      exact Ret.mk' (by rw [HR.out]; rfl) (by repeat (first | exact Ext.refl _ | assumption | refine Ext.alloc ?_ _ | refine Ext.drew ?_ | refine Ext.drewN ?_ _ | (refine Ext.setCell ?_ (by simp <;> omega) _) | refine Ext.trans ?_ (by assumption)))
end Go.Proofs.YtfbdklminljecaaGreatDoor
namespace Go.Proofs.YtfbdklminljecaaGreatDoor
open Go.ChangeShapes Go.WideShapes Go.ChangeAt Go.RowKit Go.Joins Go.Deep

section
variable {H : Type} {enc : TypeId × Value → H} {P : Program} {w : World} {base : Nat} {spare : Nat → Bool} {held : Bool}
/-- A slice of structs, each field of one cell. -/
theorem open_slice_fields {t e : TypeId} {fs : Array Field} {fuel : Nat} {cs : List Value} {x : DataW H × List MemPlace} (ht : P.underlying t = some (.slice e)) (he : P.underlying e = some (.struct fs))
    (hone : oneCellFields P fs = true) (hC : P.cellsOf e = fs.size) (h : DataW.trod enc P w base spare held fuel t cs = some x) :
    (cs = [.slice none 0 0]) ∨
    ∃ (a : Addr) (len cap m : Nat), cs = [.slice (some a) len cap] ∧ len ≤ cap ∧ cap ≤ maxLen ∧ m = (if spare a.block then cap else len) ∧
      ∀ i, i < m → ∃ (n : Nat), ∀ (j : Nat) (f : Field), fs[j]? = some f → ∃ (v : Value) (y : DataW H × List MemPlace), w.cell? (a.add (i * fs.size + j)) = some v ∧ DataW.trod enc P w base spare held n f.type [v] = some y := by
  rcases open_slice ht h with h0 | ⟨a, len, cap, m, n, D, Pl, hcs, hb, hl, hm, hmm, hx, hi⟩
  · exact .inl h0.1
  · refine .inr ⟨a, len, cap, m, hcs, hl, hm, hmm, fun i him => ?_⟩
    obtain ⟨cs', hc, ht'⟩ := hi i him
    rw [hC] at hc
    obtain ⟨ys, n', hn', hy, hlen, hyl, hf⟩ := DataW.trod_struct he ht'
    obtain ⟨_, hcl, hat⟩ := World.cells?_some hc
    refine ⟨n', fun j f hj => ?_⟩
    obtain ⟨ho, hk⟩ := hone_of hone j f hj
    have hjl : j < fs.size := (Array.getElem?_eq_some_iff.1 hj).1
    have hcell := hat j hjl
    have hv : cs'[j]? = some (cs'[j]'(by omega)) := List.getElem?_eq_getElem (by omega)
    have h1 := hf j f hj
    rw [ho, hk] at h1
    have hone' : (cs'.drop j).take 1 = [cs'[j]'(by omega)] := by
      rw [List.drop_eq_getElem_cons (by omega)]
      rfl
    rw [hone'] at h1
    have hys : ys[j]? = some (ys[j]'(by omega)) := List.getElem?_eq_getElem (by omega)
    refine ⟨_, _, ?_, h1.trans hys⟩
    rw [← Go.Deep.add_add, hcell, hv]
end
theorem wf_i64 {z : Int} (h : (Lit.int .i64 z).wf = true) : I64 z := by
  have := bounds_i64 h
  unfold I64; omega

theorem cell_add {w : World} {a : Addr} {k : Nat} {v : Value} (h : w.cell? (a.add k) = some v) : w.cell? ⟨a.block, a.off + k, none⟩ = some v := by
  obtain ⟨b, off, spot⟩ := a
  unfold Addr.add at h
  by_cases hk : k = 0
  · rw [if_pos hk] at h
    have hs : spot = none := by simpa using World.cell?_spot h
    subst hs hk
    exact h
  · rw [if_neg hk] at h; exact h
theorem cell_lt {w : World} {b o : Nat} {v : Value} (h : w.cell? ⟨b, o, none⟩ = some v) : b < w.heap.size := by
  rcases Nat.lt_or_ge b w.heap.size with hl | hl
  · exact hl
  · simp [World.cell?, Array.getElem?_eq_none hl] at h
theorem spot_none {w : World} {a : Addr} {v : Value} (h : w.cell? (a.add 0) = some v) : a = ⟨a.block, a.off, none⟩ := by
  obtain ⟨b, off, spot⟩ := a
  unfold Addr.add at h
  rw [if_pos rfl] at h
  have hs : spot = none := by simpa using World.cell?_spot h
  subst hs; rfl

section
variable {H : Type} {enc : TypeId × Value → H} {w : World} {held : Bool} {b0 : Nat} {d : DataW H} {p : List MemPlace} {v : Value} {r : Reach}
/-- A slice of ints that came in, by its cells. -/
theorem open_RI_cells {fuel : Nat} {cs : List Value} {x : DataW H × List MemPlace} (h : DataW.trod enc Tryz.prog w 0 (fun _ => true) held fuel 25 cs = some x) :
    ∃ A c zs, cs = [.slice A zs.length c] ∧ RI w A zs.length zs ∧ zs.length ≤ c ∧ c ≤ maxLen ∧ ∀ z ∈ zs, I64 z := by
  rcases open_ints Tryz.underlying25 Tryz.underlying3 (by kernel_rfl) h with ⟨hcs, _⟩ | ⟨a, l, c, zs, hcs, _, hl, hm, hz, _, hcell, hwz⟩
  · exact ⟨none, 0, [], hcs, RI.nil, Nat.le_refl _, by unfold maxLen; omega, fun z hz => by cases hz⟩
  · simp only [if_true] at hz
    have hlen : (zs.take l).length = l := by rw [List.length_take]; omega
    refine ⟨some a, c, zs.take l, by rw [hlen]; exact hcs, ⟨rfl, by rw [hlen]; unfold maxLen at hm; omega, fun hp => ?_⟩, by omega, hm, fun z hz' => wf_i64 (hwz z (List.mem_of_mem_take hz'))⟩
    rw [hlen] at hp
    refine ⟨a.block, a.off, by rw [spot_none (hcell 0 (by omega))], cell_lt (cell_add (hcell 0 (by omega))), fun k hk => ?_⟩
    rw [hlen] at hk
    rw [cell_add (hcell k (by omega)), List.getD_eq_getElem?_getD, List.getD_eq_getElem?_getD, List.getElem?_take, if_pos hk]
set_option maxRecDepth 100000 in
theorem open_RI (hv : Value.okWide Tryz.prog w r b0 25 v) (h : DataW.Trod enc Tryz.prog w 0 (fun _ => true) held 25 v d p) :
    ∃ A c zs, v = .slice A zs.length c ∧ RI w A zs.length zs ∧ zs.length ≤ c ∧ c ≤ maxLen ∧ ∀ z ∈ zs, I64 z := by
  obtain ⟨a, l, c, rfl⟩ := okWide_slice Tryz.underlying25 hv
  obtain ⟨fuel, hf⟩ := h
  obtain ⟨A, c', zs, hcs, hr⟩ := open_RI_cells hf
  have h1 : Value.slice a l c = .slice A zs.length c' := by
    have h0 : [Value.slice a l c] = [.slice A zs.length c'] := hcs
    exact (List.cons.inj h0).1
  exact ⟨A, c', zs, h1, hr⟩
/-- A slice of sorts that came in, by its cells. -/
theorem open_RT_cells {fuel : Nat} {cs : List Value} {x : DataW H × List MemPlace} (h : DataW.trod enc Tryz.prog w 0 (fun _ => true) held fuel 22 cs = some x) :
    ∃ A c ss, cs = [.slice A ss.length c] ∧ RT w A ss.length ss ∧ ss.length ≤ c ∧ c ≤ maxLen ∧ ∀ k, k < ss.length → (ss.getD k TS.zero).name.size ≤ maxLen ∧ (ss.getD k TS.zero).text.size ≤ maxLen ∧ I64 (ss.getD k TS.zero).kind ∧ I64 (ss.getD k TS.zero).width := by
  rcases open_slice_fields Tryz.underlying22 Tryz.underlying57 (by kernel_rfl) (by kernel_rfl) h with hcs | ⟨a, l, c, m, hcs, hl, hm, hmm, hel⟩
  · exact ⟨none, 0, [], hcs, ⟨rfl, by simp, fun h => absurd h (by simp)⟩, Nat.le_refl _, by unfold maxLen; omega, fun k hk => absurd hk (by simp)⟩
  · have hel' : ∀ i, i < l → ∃ s : TS, (w.cell? (a.add (i * 4 + 0)) = some (.string s.name) ∧ w.cell? (a.add (i * 4 + 1)) = some (.string s.text) ∧ w.cell? (a.add (i * 4 + 2)) = some (.int .i64 s.kind) ∧ w.cell? (a.add (i * 4 + 3)) = some (.int .i64 s.width)) ∧
        s.name.size ≤ maxLen ∧ s.text.size ≤ maxLen ∧ I64 s.kind ∧ I64 s.width := fun i hi => by
      obtain ⟨n, hj⟩ := hel i (by simp only [if_true] at hmm; omega)
      obtain ⟨v0, y0, c0, t0⟩ := hj 0 _ rfl
      obtain ⟨v1, y1, c1, t1⟩ := hj 1 _ rfl
      obtain ⟨v2, y2, c2, t2⟩ := hj 2 _ rfl
      obtain ⟨v3, y3, c3, t3⟩ := hj 3 _ rfl
      obtain ⟨s0, e0, _, z0⟩ := DataW.trod_string Tryz.underlying9 t0
      obtain ⟨s1, e1, _, z1⟩ := DataW.trod_string Tryz.underlying9 t1
      obtain ⟨n2, e2, _, z2⟩ := DataW.trod_int Tryz.underlying3 t2
      obtain ⟨n3, e3, _, z3⟩ := DataW.trod_int Tryz.underlying3 t3
      simp only [List.cons.injEq, and_true] at e0 e1 e2 e3
      subst e0 e1 e2 e3
      exact ⟨⟨s0, s1, n2, n3⟩, ⟨c0, c1, c2, c3⟩, z0, z1, wf_i64 z2, wf_i64 z3⟩
    obtain ⟨g, hg⟩ : ∃ g : Nat → TS, ∀ i, i < l → (w.cell? (a.add (i * 4 + 0)) = some (.string (g i).name) ∧ w.cell? (a.add (i * 4 + 1)) = some (.string (g i).text) ∧ w.cell? (a.add (i * 4 + 2)) = some (.int .i64 (g i).kind) ∧ w.cell? (a.add (i * 4 + 3)) = some (.int .i64 (g i).width)) ∧
        (g i).name.size ≤ maxLen ∧ (g i).text.size ≤ maxLen ∧ I64 (g i).kind ∧ I64 (g i).width :=
      ⟨fun i => if h : i < l then Classical.choose (hel' i h) else TS.zero, fun i hi => by simp only [dif_pos hi]; exact Classical.choose_spec (hel' i hi)⟩
    have hlen : ((List.range l).map g).length = l := by simp
    have hat : ∀ k, k < l → ((List.range l).map g).getD k TS.zero = g k := fun k hk => by
      rw [List.getD_eq_getElem?_getD, List.getElem?_map, List.getElem?_range hk]; rfl
    refine ⟨some a, c, (List.range l).map g, by rw [hlen]; exact hcs, ⟨rfl, by rw [hlen]; unfold maxLen at hm; omega, fun hp => ?_⟩, by omega, hm, fun k hk => ?_⟩
    · rw [hlen] at hp
      refine ⟨a.block, a.off, by rw [spot_none (hg 0 hp).1.1], cell_lt (cell_add (hg 0 hp).1.1), fun k hk => ?_⟩
      rw [hlen] at hk
      obtain ⟨⟨q0, q1, q2, q3⟩, _⟩ := hg k hk
      rw [hat k hk, show a.off + k * 4 + 1 = a.off + (k * 4 + 1) by omega, show a.off + k * 4 + 2 = a.off + (k * 4 + 2) by omega, show a.off + k * 4 + 3 = a.off + (k * 4 + 3) by omega]
      exact ⟨cell_add q0, cell_add q1, cell_add q2, cell_add q3⟩
    · rw [hlen] at hk
      rw [hat k hk]; exact (hg k hk).2
set_option maxRecDepth 100000 in
/-- A fount that came in. -/
theorem open_FR (hv : Value.okWide Tryz.prog w r b0 24 v) (h : DataW.Trod enc Tryz.prog w 0 (fun _ => true) held 24 v d p) :
    ∃ f A c, v = FT.val f A c ∧ FR w A c f := by
  obtain ⟨v0, v1, v2, y0, y1, y2, n, rfl, _, _, t0, t1, t2⟩ := open_agg3 Tryz.underlying24 (by kernel_rfl) (by kernel_rfl) hv h
  obtain ⟨s0, e0, _, z0⟩ := DataW.trod_string Tryz.underlying9 t0
  obtain ⟨n1, e1, _, z1⟩ := DataW.trod_int Tryz.underlying3 t1
  obtain ⟨A, c, ss, e2, hr, hc, hm, hz⟩ := open_RT_cells t2
  simp only [List.cons.injEq, and_true] at e0 e1 e2
  subst e0 e1 e2
  exact ⟨⟨s0, n1, ss⟩, A, c, rfl, ⟨hr, z0, hz, wf_i64 z1, hc, hm⟩⟩
set_option maxRecDepth 100000 in
/-- A slice of slices of ints that came in. -/
theorem open_RL (hv : Value.okWide Tryz.prog w r b0 26 v) (h : DataW.Trod enc Tryz.prog w 0 (fun _ => true) held 26 v d p) :
    ∃ A c rows, v = .slice A rows.length c ∧ RL w A rows.length rows ∧ (∀ k, k < rows.length → (rows.getD k SI.none_).zs.length ≤ (rows.getD k SI.none_).c ∧ (rows.getD k SI.none_).c ≤ maxLen ∧ ∀ z ∈ (rows.getD k SI.none_).zs, I64 z) := by
  obtain ⟨a0, l0, c0, rfl⟩ := okWide_slice Tryz.underlying26 hv
  obtain ⟨fuel, hf⟩ := h
  rcases open_slice Tryz.underlying26 hf with ⟨hcs, _⟩ | ⟨a, len, cap, m, n, D, Pl, hcs, hb, hl, hm, hmm, hx, hi⟩
  · have h1 : Value.slice a0 l0 c0 = .slice none 0 0 := (List.cons.inj (show [Value.slice a0 l0 c0] = [.slice none 0 0] from hcs)).1
    exact ⟨none, 0, [], h1, RL.none_ w, fun k hk => absurd hk (by simp)⟩
  · have h1 : Value.slice a0 l0 c0 = .slice (some a) len cap := (List.cons.inj (show [Value.slice a0 l0 c0] = [.slice (some a) len cap] from hcs)).1
    have hc1 : Tryz.prog.cellsOf 25 = 1 := by kernel_rfl
    have hel : ∀ i, i < len → ∃ s : SI, w.cell? (a.add i) = some s.val ∧ RI w s.A s.zs.length s.zs ∧ s.zs.length ≤ s.c ∧ s.c ≤ maxLen ∧ ∀ z ∈ s.zs, I64 z := fun i hil => by
      obtain ⟨cs', hc, ht'⟩ := hi i (by simp only [if_true] at hmm; omega)
      rw [hc1, Nat.mul_one] at hc
      obtain ⟨_, hcl, hat⟩ := World.cells?_some hc
      obtain ⟨A, c, zs, e, hr, h2, h3, h4⟩ := open_RI_cells ht'
      subst e
      have := hat 0 (by omega)
      refine ⟨⟨A, c, zs⟩, ?_, hr, h2, h3, h4⟩
      have e0 : (a.add i).add 0 = a.add i := by unfold Addr.add; simp
      rw [e0] at this
      exact this
    obtain ⟨g, hg⟩ : ∃ g : Nat → SI, ∀ i, i < len → w.cell? (a.add i) = some (g i).val ∧ RI w (g i).A (g i).zs.length (g i).zs ∧ (g i).zs.length ≤ (g i).c ∧ (g i).c ≤ maxLen ∧ ∀ z ∈ (g i).zs, I64 z :=
      ⟨fun i => if h : i < len then Classical.choose (hel i h) else SI.none_, fun i hil => by simp only [dif_pos hil]; exact Classical.choose_spec (hel i hil)⟩
    have hlen : ((List.range len).map g).length = len := by simp
    have hat : ∀ k, k < len → ((List.range len).map g).getD k SI.none_ = g k := fun k hk => by
      rw [List.getD_eq_getElem?_getD, List.getElem?_map, List.getElem?_range hk]; rfl
    refine ⟨some a, cap, (List.range len).map g, by rw [hlen]; exact h1, ⟨rfl, by rw [hlen]; unfold maxLen at hm; omega, fun hp => ?_, fun k hk => ?_⟩, fun k hk => ?_⟩
    · rw [hlen] at hp
      refine ⟨a.block, a.off, by rw [spot_none (hg 0 hp).1], cell_lt (cell_add (hg 0 hp).1), fun k hk => ?_⟩
      rw [hlen] at hk
      rw [hat k hk]; exact cell_add (hg k hk).1
    · rw [hlen] at hk
      rw [hat k hk]; exact (hg k hk).2.1
    · rw [hlen] at hk
      rw [hat k hk]; exact (hg k hk).2.2
end
end Go.Proofs.YtfbdklminljecaaGreatDoor
namespace Go.Proofs.YtfbdklminljecaaGreatDoor.parted
open Go.RowKit

theorem err2_ok {f : FT} {xs ys : List Int} (hc : (chk f).2 = 0) (h1 : countsErr f xs = 0) (h2 : countsErr f ys = 0) : caseErr2 f xs ys = 0 := case2_of (case_of hc h1) h2
theorem idx_neg {zs : List Int} : idxOf neg zs zs.length = none ↔ ∀ k, k < zs.length → 0 ≤ zs.getD k 0 := by
  constructor
  · intro h k hk
    rcases Int.lt_or_le (zs.getD k 0) 0 with hn | hn
    · have : (idxOf neg zs zs.length).isSome = true := (idxOf_isSome _ _ _).2 ⟨k, hk, by unfold neg; simpa using hn⟩
      rw [h] at this; cases this
    · exact hn
  · intro h
    exact idxOf_none fun k hk => by have := h k hk; unfold neg; rw [decide_eq_false_iff_not]; omega
theorem take_cases {f : FT} {xs ys : List Int} (h : caseErr2 f xs ys = 0) :
    (takeR f xs ys = (zipK (· - ·) xs ys, 0, 0) ∧ ∀ k, k < xs.length → ys.getD k 0 ≤ xs.getD k 0) ∨ ∃ kk : Nat, takeR f xs ys = ([], (kk : Int), 20) := by
  unfold takeR
  rw [if_neg (by rw [h]; simp)]
  cases hi : idxOf neg (zipK (· - ·) xs ys) (zipK (· - ·) xs ys).length with
  | none =>
    refine .inl ⟨rfl, fun k hk => ?_⟩
    have := idx_neg.1 hi k (by rw [zipK_len]; exact hk)
    rw [zipK_at _ _ _ _ hk] at this
    omega
  | some k => exact .inr ⟨k, rfl⟩
theorem take_all {f : FT} {xs ys : List Int} (h : caseErr2 f xs ys = 0) (ha : ∀ k, k < xs.length → ys.getD k 0 ≤ xs.getD k 0) : takeR f xs ys = (zipK (· - ·) xs ys, 0, 0) := by
  unfold takeR
  rw [if_neg (by rw [h]; simp), idx_neg.2 (fun k hk => by rw [zipK_len] at hk; rw [zipK_at _ _ _ _ hk]; have := ha k hk; omega)]
theorem lack_ok {f : FT} {xs ys : List Int} (h : caseErr2 f xs ys = 0) : lackR f xs ys = (zipK lacksI xs ys, 0) := by unfold lackR; rw [if_neg (by rw [h]; simp)]
theorem join_cases {f : FT} {xs ys : List Int} (h : caseErr2 f xs ys = 0) (hn : 1 ≤ xs.length) :
    joinR f xs ys = ([], 8) ∨ (joinR f xs ys = (zipK (· + ·) xs ys, 0) ∧ ∀ k, k < xs.length → xs.getD k 0 + ys.getD k 0 ≤ 1000000) := by
  unfold joinR
  rw [if_neg (by rw [h]; simp)]
  by_cases hm : 1000000 < maxTo (zipK (· + ·) xs ys) (zipK (· + ·) xs ys).length
  · exact .inl (by rw [if_pos hm])
  · refine .inr ⟨by rw [if_neg hm], fun k hk => ?_⟩
    rcases Int.lt_or_le 1000000 (xs.getD k 0 + ys.getD k 0) with hb | hb
    · exact absurd ((maxTo_gt _ _ _ (by rw [zipK_len]; exact hn)).2 ⟨k, by rw [zipK_len]; exact hk, by rw [zipK_at _ _ _ _ hk]; exact hb⟩) hm
    · exact hb
theorem join_all {f : FT} {xs ys : List Int} (h : caseErr2 f xs ys = 0) (hn : 1 ≤ xs.length) (ha : ∀ k, k < xs.length → xs.getD k 0 + ys.getD k 0 ≤ 1000000) : joinR f xs ys = (zipK (· + ·) xs ys, 0) := by
  unfold joinR
  rw [if_neg (by rw [h]; simp), if_neg]
  intro hm
  obtain ⟨k, hk, hb⟩ := (maxTo_gt _ _ _ (by rw [zipK_len]; exact hn)).1 hm
  rw [zipK_len] at hk
  rw [zipK_at _ _ _ _ hk] at hb
  have := ha k hk
  omega

theorem metal_minus (ss : List TS) (xs ys : List Int) (body : Int) : ∀ n, n ≤ xs.length → metalTo ss (zipK (· - ·) xs ys) body n + metalTo ss ys body n = metalTo ss xs body n
  | 0, _ => rfl
  | n + 1, h => by
    have ih := metal_minus ss xs ys body n (by omega)
    unfold metalTo at ih ⊢
    rw [sumTo, sumTo, sumTo, zipK_at _ _ _ _ (by omega), ← ih, Int.sub_mul, Int.sub_mul]
    omega

def col : List SI → Nat → Int
  | [], _ => 0
  | s :: t, k => s.zs.getD k 0 + col t k
theorem col_append (a b : List SI) (k : Nat) : col (a ++ b) k = col a k + col b k := by
  induction a with
  | nil => simp [col]
  | cons s t ih => simp only [List.cons_append, col, ih]; omega
theorem col_nonneg {tk : List SI} {k : Nat} (h : ∀ s ∈ tk, 0 ≤ s.zs.getD k 0) : 0 ≤ col tk k := by
  induction tk with
  | nil => simp [col]
  | cons s t ih => have h1 := h s (by simp); have h2 := ih (fun x hx => h x (by simp [hx])); simp only [col]; omega

/-- What the parting keeps. -/
structure PInv (f : FT) (xs ls : List Int) (tk : List SI) (m : Int) : Prop where
  len : ls.length = f.sorts.length
  sum : ∀ k, k < f.sorts.length → 0 ≤ ls.getD k 0 ∧ ls.getD k 0 + col tk k = xs.getD k 0
  good : ∀ s ∈ tk, countsErr f s.zs = 0
  met : metalR f ls + m = metalR f xs
section
variable {f : FT} {xs ls : List Int} {tk : List SI} {m : Int}
theorem PInv.start (h : countsErr f xs = 0) : PInv f xs xs [] 0 := by
  obtain ⟨l, b⟩ := counts_zero h
  exact ⟨l, fun k hk => ⟨(b k (by omega)).1, by simp [col]⟩, fun s hs => (by cases hs), by omega⟩
theorem good_col {tk : List SI} (h : ∀ s ∈ tk, countsErr f s.zs = 0) (k : Nat) (hk : k < f.sorts.length) : 0 ≤ col tk k :=
  col_nonneg fun s hs => by obtain ⟨l, b⟩ := counts_zero (h s hs); exact (b k (by omega)).1
theorem PInv.counts (h : PInv f xs ls tk m) (hx : countsErr f xs = 0) : countsErr f ls = 0 := by
  obtain ⟨l, b⟩ := counts_zero hx
  have hl := h.len
  refine counts_of hl fun k hk => ?_
  have h1 := h.sum k (by omega); have h2 := good_col h.good k (by omega); have h3 := b k (by omega)
  omega
theorem PInv.take (h : PInv f xs ls tk m) {s : SI} (hs : countsErr f s.zs = 0) (ha : ∀ k, k < ls.length → s.zs.getD k 0 ≤ ls.getD k 0) :
    PInv f xs (zipK (· - ·) ls s.zs) (tk ++ [s]) (m + metalR f s.zs) := by
  have hl := h.len
  refine ⟨by rw [zipK_len]; exact hl, fun k hk => ?_, fun x hx => ?_, ?_⟩
  · have h1 := h.sum k hk; have h2 := ha k (by omega)
    rw [zipK_at _ _ _ _ (by omega), col_append]
    simp only [col]; omega
  · rcases List.mem_append.1 hx with h1 | h1
    · exact h.good x h1
    · rw [List.mem_singleton.1 h1]; exact hs
  · have h1 := h.met
    have h2 := metal_minus f.sorts ls s.zs f.body f.sorts.length (by omega)
    unfold metalR at h1 ⊢
    omega
theorem metal_bd {cs : List Int} (h1 : (chk f).2 = 0) (h2 : countsErr f cs = 0) : 0 ≤ metalR f cs ∧ metalR f cs ≤ 1728000000000000 := (MetalOk.of h1 h2).bd _ (Nat.le_refl _)
theorem PInv.bd (h : PInv f xs ls tk m) (hc : (chk f).2 = 0) (hx : countsErr f xs = 0) : 0 ≤ metalR f ls ∧ metalR f ls ≤ 1728000000000000 ∧ m ≤ 1728000000000000 ∧ -1728000000000000 ≤ m := by
  have h1 := metal_bd hc hx; have h2 := metal_bd hc (h.counts hx); have h3 := h.met
  omega

/-- What the joining keeps. -/
structure BInv (f : FT) (xs ls : List Int) (tk : List SI) (j : Nat) : Prop where
  len : ls.length = f.sorts.length
  sum : ∀ k, k < f.sorts.length → 0 ≤ ls.getD k 0 ∧ ls.getD k 0 + col (tk.take j) k = xs.getD k 0
theorem PInv.back (h : PInv f xs ls tk m) : BInv f xs ls tk tk.length := ⟨h.len, fun k hk => by rw [List.take_length]; exact h.sum k hk⟩
theorem take_next (tk : List SI) (i : Nat) (h : i < tk.length) : tk.take (i + 1) = tk.take i ++ [tk.getD i SI.none_] := by
  rw [List.take_succ_eq_append_getElem h, List.getD_eq_getElem?_getD, List.getElem?_eq_getElem h]; rfl
theorem getD_mem (tk : List SI) (i : Nat) (h : i < tk.length) : tk.getD i SI.none_ ∈ tk := by
  rw [List.getD_eq_getElem?_getD, List.getElem?_eq_getElem h]; exact List.getElem_mem h
theorem BInv.join {i : Nat} (h : BInv f xs ls tk (i + 1)) (hi : i < tk.length) (hc : (chk f).2 = 0) (hx : countsErr f xs = 0) (good : ∀ s ∈ tk, countsErr f s.zs = 0) :
    joinR f ls (tk.getD i SI.none_).zs = (zipK (· + ·) ls (tk.getD i SI.none_).zs, 0) ∧ BInv f xs (zipK (· + ·) ls (tk.getD i SI.none_).zs) tk i := by
  obtain ⟨lx, bx⟩ := counts_zero hx
  obtain ⟨_, hn, _, _⟩ := chk_zero hc
  have gs := good _ (getD_mem tk i hi)
  obtain ⟨l2, b2⟩ := counts_zero gs
  have hl := h.len
  have key : ∀ k, k < f.sorts.length → 0 ≤ ls.getD k 0 ∧ 0 ≤ (tk.getD i SI.none_).zs.getD k 0 ∧ 0 ≤ col (tk.take i) k ∧ ls.getD k 0 + (tk.getD i SI.none_).zs.getD k 0 + col (tk.take i) k = xs.getD k 0 ∧ xs.getD k 0 ≤ 1000000 := fun k hk => by
    have h1 := h.sum k hk
    rw [take_next tk i hi, col_append] at h1
    simp only [col] at h1
    have h2 := good_col (fun s hs => good s (List.mem_of_mem_take hs)) (tk := tk.take i) k hk
    have h3 := b2 k (by omega); have h4 := bx k (by omega)
    omega
  have hls : countsErr f ls = 0 := counts_of hl fun k hk => by have := key k (by omega); omega
  refine ⟨join_all (err2_ok hc hls gs) (by omega) fun k hk => by have := key k (by omega); omega, by rw [zipK_len]; exact hl, fun k hk => ?_⟩
  have := key k hk
  rw [zipK_at _ _ _ _ (by omega)]
  omega
theorem BInv.done (h : BInv f xs ls tk 0) (hx : countsErr f xs = 0) : ls = xs := by
  obtain ⟨lx, _⟩ := counts_zero hx
  refine list_ext_getD (by rw [h.len, lx]) fun k hk => ?_
  have := (h.sum k (by rw [← h.len]; exact hk)).2
  simp [col] at this
  simpa using this
theorem rich_ok {zs : List Int} (hc : (chk f).2 = 0) (hl : countsErr f ls = 0) (hz : countsErr f zs = 0) (ha : ∀ k, k < ls.length → ls.getD k 0 + (zipK lacksI ls zs).getD k 0 ≤ 1000000) :
    takeR f (zipK (· + ·) ls (zipK lacksI ls zs)) zs = (zipK (· - ·) (zipK (· + ·) ls (zipK lacksI ls zs)) zs, 0, 0) := by
  obtain ⟨l1, b1⟩ := counts_zero hl
  obtain ⟨l2, b2⟩ := counts_zero hz
  have key : ∀ k, k < ls.length → (zipK (· + ·) ls (zipK lacksI ls zs)).getD k 0 = ls.getD k 0 + max 0 (zs.getD k 0 - ls.getD k 0) ∧ ls.getD k 0 + max 0 (zs.getD k 0 - ls.getD k 0) ≤ 1000000 := fun k hk => by
    have := ha k hk
    rw [zipK_at _ _ _ _ hk] at this ⊢
    rw [zipK_at _ _ _ _ hk]
    exact ⟨rfl, by unfold lacksI at this; omega⟩
  have hr : countsErr f (zipK (· + ·) ls (zipK lacksI ls zs)) = 0 := counts_of (by rw [zipK_len]; exact l1) fun k hk => by
    rw [zipK_len] at hk
    have h1 := key k hk; have h2 := b1 k hk
    omega
  refine take_all (err2_ok hc hr hz) fun k hk => ?_
  rw [zipK_len] at hk
  have h1 := key k hk
  omega
theorem lack_counts {zs : List Int} (hl : countsErr f ls = 0) (hz : countsErr f zs = 0) : countsErr f (zipK lacksI ls zs) = 0 := by
  obtain ⟨l1, b1⟩ := counts_zero hl
  obtain ⟨l2, b2⟩ := counts_zero hz
  refine counts_of (by rw [zipK_len]; exact l1) fun k hk => ?_
  rw [zipK_len] at hk
  have h1 := b1 k hk; have h2 := b2 k (by omega)
  rw [zipK_at _ _ _ _ hk]; unfold lacksI; omega
end
end Go.Proofs.YtfbdklminljecaaGreatDoor.parted
namespace Go.Proofs.YtfbdklminljecaaGreatDoor
open Go.RowKit

/-- What timesTo finds among the first n sorts. -/
def TimesAt (cs ns : List Int) (n : Nat) (t : Int) (s : Nat) : Prop :=
  s < n ∧ 0 < ns.getD s 0 ∧ t = cs.getD s 0 / ns.getD s 0 ∧ 0 ≤ t ∧ ∀ j, j < n → 0 < ns.getD j 0 → t ≤ cs.getD j 0 / ns.getD j 0 ∧ (j < s → t < cs.getD j 0 / ns.getD j 0)
theorem timesTo_spec (cs ns : List Int) : ∀ n, (∀ j, j < n → 0 ≤ cs.getD j 0) →
    (timesTo cs ns n = (-1, 0) ∧ ∀ j, j < n → ns.getD j 0 ≤ 0) ∨ TimesAt cs ns n (timesTo cs ns n).1 (timesTo cs ns n).2
  | 0, _ => .inl ⟨rfl, fun j hj => by omega⟩
  | n + 1, hc => by
    have ih := timesTo_spec cs ns n (fun j hj => hc j (by omega))
    have hn := hc n (by omega)
    rw [timesTo]
    generalize timesTo cs ns n = p at *
    obtain ⟨t, s⟩ := p
    simp only at ih ⊢
    by_cases hp : 0 < ns.getD n 0
    · have hq : 0 ≤ cs.getD n 0 / ns.getD n 0 := Int.ediv_nonneg hn (by omega)
      rcases ih with ⟨h1, h2⟩ | ⟨h1, h2, h3, h4, h5⟩
      · obtain ⟨rfl, rfl⟩ := Prod.mk.inj h1
        rw [if_pos ⟨hp, .inl (by decide)⟩]
        refine .inr ⟨by omega, hp, rfl, hq, fun j hj hj0 => ?_⟩
        rcases Nat.lt_or_ge j n with h | h
        · have := h2 j h; omega
        · obtain rfl : j = n := by omega
          exact ⟨Int.le_refl _, fun h => absurd h (by omega)⟩
      · by_cases hlt : cs.getD n 0 / ns.getD n 0 < t
        · rw [if_pos ⟨hp, .inr hlt⟩]
          refine .inr ⟨by omega, hp, rfl, hq, fun j hj hj0 => ?_⟩
          simp only
          rcases Nat.lt_or_ge j n with h | h
          · have := (h5 j h hj0).1; omega
          · obtain rfl : j = n := by omega
            exact ⟨Int.le_refl _, fun h => absurd h (by omega)⟩
        · rw [if_neg (by rintro ⟨_, h | h⟩ <;> omega)]
          refine .inr ⟨by omega, h2, h3, h4, fun j hj hj0 => ?_⟩
          rcases Nat.lt_or_ge j n with h | h
          · exact h5 j h hj0
          · obtain rfl : j = n := by omega
            exact ⟨by omega, fun h => absurd h (by omega)⟩
    · rw [if_neg (fun h => hp h.1)]
      rcases ih with ⟨h1, h2⟩ | ⟨h1, h2, h3, h4, h5⟩
      · refine .inl ⟨h1, fun j hj => ?_⟩
        rcases Nat.lt_or_ge j n with h | h
        · exact h2 j h
        · obtain rfl : j = n := by omega
          omega
      · refine .inr ⟨by omega, h2, h3, h4, fun j hj hj0 => ?_⟩
        rcases Nat.lt_or_ge j n with h | h
        · exact h5 j h hj0
        · obtain rfl : j = n := by omega
          omega
theorem mul_div_le {n x y : Int} (hn : 0 ≤ n) (hy : 0 < y) : n * (x / y) ≤ n * x / y := by
  refine Int.le_ediv_of_mul_le hy ?_
  rw [Int.mul_assoc]
  exact Int.mul_le_mul_of_nonneg_left (Int.ediv_mul_le x (by omega)) hn
/-- n times a case suffices n times as often, at least. -/
theorem times_mul {bl cl ns : List Int} {n : Int} {m : Nat} (hn : 0 ≤ n) (hb : ∀ j, j < m → 0 ≤ bl.getD j 0) (hc : ∀ j, j < m → cl.getD j 0 = n * bl.getD j 0) (hex : ∃ j, j < m ∧ 0 < ns.getD j 0) :
    TimesAt bl ns m (timesTo bl ns m).1 (timesTo bl ns m).2 ∧ TimesAt cl ns m (timesTo cl ns m).1 (timesTo cl ns m).2 ∧ n * (timesTo bl ns m).1 ≤ (timesTo cl ns m).1 := by
  obtain ⟨j, hj, hj0⟩ := hex
  have hc0 : ∀ j, j < m → 0 ≤ cl.getD j 0 := fun j hj => by rw [hc j hj]; exact Int.mul_nonneg hn (hb j hj)
  rcases timesTo_spec bl ns m hb with ⟨_, h⟩ | h1
  · have := h j hj; omega
  rcases timesTo_spec cl ns m hc0 with ⟨_, h⟩ | h2
  · have := h j hj; omega
  refine ⟨h1, h2, ?_⟩
  obtain ⟨a1, a2, a3, a4, a5⟩ := h2
  obtain ⟨b1, b2, b3, b4, b5⟩ := h1
  have k1 := (b5 _ a1 a2).1
  rw [a3, hc _ a1]
  exact Int.le_trans (Int.mul_le_mul_of_nonneg_left k1 hn) (mul_div_le hn a2)
end Go.Proofs.YtfbdklminljecaaGreatDoor
namespace Go.Proofs.YtfbdklminljecaaGreatDoor
open Go.RowKit

theorem made_zeros (n : Nat) : (madeCells (Value.int .i64 0).cells (n * 1)).toList = (List.replicate n (0 : Int)).map (Value.int .i64) := by
  unfold madeCells
  simp only [Value.cells, List.map_replicate, List.eq_replicate_iff]
  simp
  intro a _
  rw [Nat.mod_one]; rfl
theorem list_makeI {w : World} {ops : Array Oper} {rest : List Oper} {o : Oper} {a : Act} {Q : Exit → Act → World → Prop} (hgd : o.guard = none) (l c : Operand) (hop : o.op = Op.makeSlice 25 l c)
    (n : Nat) (hl : a.eval l = .int .i64 (n : Int)) (hc : a.eval c = .int .i64 (n : Int)) (hn : n ≤ 1000000)
    (h : ∀ w', SL w' w.heap.size (some ⟨w.heap.size, 0, none⟩) n (List.replicate n 0) → Ext w w' → w.heap.size < w'.heap.size → wpList Tryz.prog ops Q rest (a.put o.dst (.slice (some ⟨w.heap.size, 0, none⟩) n n)) w') : wpList Tryz.prog ops Q (o :: rest) a w := by
  obtain ⟨i0, hi, hz0, hz1, hz2⟩ := info_parts intInfo
  refine wpList_make_full w hgd l c 25 hop w.heap.size 3 i0 (.int .i64 0) 1 Tryz.underlying25 hi hz0 hz1 .i64 .i64 (n : Int) (n : Int) n hl hc rfl rfl (by rw [hz2]; omega) (by unfold maxLen; omega) (Nat.le_refl _) ?_
  intro w' hown hg
  rw [made_zeros] at hown
  have ho : Own w' w.heap.size (.slice (some ⟨w.heap.size, 0, none⟩) (List.replicate n (0 : Int)).length n) (List.replicate n 0) := by
    unfold Own; rw [List.length_replicate]; exact hown
  have hx : Ext w w' := Ext.grown (Ext.refl _) hg fun k hk => by cases hk
  obtain ⟨A, c', he, hcl, hr⟩ := ho.form (by rw [List.length_replicate]; omega)
  obtain ⟨e1, _, e3⟩ := Value.slice.inj he
  subst e1 e3
  have hlt := (World.ownsRow.lt ho w.heap.size rfl).2
  exact h w' ⟨ho, hr, hcl⟩ hx hlt
end Go.Proofs.YtfbdklminljecaaGreatDoor
namespace Go.Proofs.YtfbdklminljecaaGreatDoor
open Go.RowKit

def emR (f : FT) : Int × Int := if (chk f).2 ≠ 0 then (0, (chk f).2) else (60 * f.body, 0)
def emV (f : FT) : Value := .tuple #[.int .i64 (emR f).1, .int .i64 (emR f).2]
def gcdZ (a b : Int) : Int := (Nat.gcd a.toNat b.toNat : Nat)
theorem gcdZ_zero {a : Int} (h : 0 ≤ a) : gcdZ a 0 = a := by unfold gcdZ; simp; omega
theorem gcdZ_step {a b : Int} (ha : 0 ≤ a) (hb : 0 < b) : gcdZ a b = gcdZ b (a % b) := by
  unfold gcdZ
  have h : (a % b).toNat = a.toNat % b.toNat := by
    obtain ⟨x, rfl⟩ := Int.eq_ofNat_of_zero_le ha
    obtain ⟨y, rfl⟩ := Int.eq_ofNat_of_zero_le (Int.le_of_lt hb)
    norm_cast
  rw [h, Nat.gcd_comm a.toNat, Nat.gcd_rec, Nat.gcd_comm]
theorem gcdZ_bd {a b : Int} (ha : 0 < a) : 1 ≤ gcdZ a b ∧ gcdZ a b ≤ a := by
  unfold gcdZ
  have h1 : 0 < Nat.gcd a.toNat b.toNat := Nat.gcd_pos_of_pos_left _ (by omega)
  have h2 : Nat.gcd a.toNat b.toNat ≤ a.toNat := Nat.gcd_le_left _ (by omega)
  omega
end Go.Proofs.YtfbdklminljecaaGreatDoor
