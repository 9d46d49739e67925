/-
  Lines in memory of one's own; the copy of lines (CopyLines).
-/
import Derived.Test.YtfbdklminljecaaGreatDoorGJ
import Derived.Test.YtfbdklminljecaaGreatDoorTurnsLaw
import Derived.Test.YtfbdklminljecaaGreatDoorGE
import Derived.Deep.RegionHeld3
import Derived.Deep.DrawnRows
namespace Go.Proofs.YtfbdklminljecaaGreatDoor
open Go.RowKit
attribute [local go_sem ↓] Go.wp_at_zero Go.wp_at_succ

/-- The same sorts line by line. -/
structure SameL (cl ls : List LN) : Prop where
  len : cl.length = ls.length
  zs : ∀ k, lineZ cl k = lineZ ls k
section
variable {cl ls : List LN}
theorem SameL.lines (h : SameL cl ls) (f : FT) : linesE f cl = linesE f ls := by
  unfold linesE
  rw [h.len]
  have e : (fun k => listChk f (cl.getD k LN.zero).s.zs) = fun k => listChk f (ls.getD k LN.zero).s.zs := by
    funext k; exact congrArg (listChk f) (h.zs k)
  rw [e]
theorem SameL.to (h : SameL cl ls) (cs : List Int) : ∀ k, trTo cl cs k = trTo ls cs k
  | 0 => rfl
  | k + 1 => by rw [trTo, trTo, h.to cs k, h.zs k]
theorem SameL.turnE (h : SameL cl ls) (f : FT) (cs : List Int) : turnE f cs cl = turnE f cs ls := by
  unfold Go.Proofs.YtfbdklminljecaaGreatDoor.turnE; rw [h.lines f]
theorem SameL.turnL (h : SameL cl ls) (f : FT) (cs : List Int) : turnL f cs cl = turnL f cs ls := by
  unfold Go.Proofs.YtfbdklminljecaaGreatDoor.turnL; rw [h.turnE f cs, h.to cs, h.len]
theorem SameL.all (h : SameL cl ls) : ∀ k, allZ cl k = allZ ls k
  | 0 => rfl
  | k + 1 => by rw [allZ, allZ, h.all k, h.zs k]
end
theorem lineZ_out (ls : List LN) {k : Nat} (h : ls.length ≤ k) : lineZ ls k = [] := by
  unfold lineZ
  rw [List.getD_eq_getElem?_getD, List.getElem?_eq_none h]; rfl
theorem SameL.of (cl ls : List LN) (hl : cl.length = ls.length) (hz : ∀ k, k < ls.length → lineZ cl k = lineZ ls k) : SameL cl ls :=
  ⟨hl, fun k => by
    rcases Nat.lt_or_ge k ls.length with h | h
    · exact hz k h
    · rw [lineZ_out ls h, lineZ_out cl (by omega)]⟩
def lnCells : List LN → List Value
  | [] => []
  | p :: r => .int .i64 p.m :: p.s.val :: lnCells r
theorem lnCells_len : ∀ ps : List LN, (lnCells ps).length = ps.length * 2
  | [] => rfl
  | p :: r => by simp [lnCells, lnCells_len r]; omega
theorem lnCells_at : ∀ (ps : List LN) (k : Nat), k < ps.length → (lnCells ps)[k * 2]? = some (.int .i64 (ps.getD k LN.zero).m) ∧ (lnCells ps)[k * 2 + 1]? = some (ps.getD k LN.zero).s.val
  | p :: r, 0, _ => ⟨rfl, rfl⟩
  | p :: r, k + 1, h => by
    obtain ⟨h0, h1⟩ := lnCells_at r k (by simpa using h)
    rw [show (k + 1) * 2 = k * 2 + 2 by omega]
    exact ⟨h0, h1⟩
theorem lnCells_app : ∀ (ps qs : List LN), lnCells (ps ++ qs) = lnCells ps ++ lnCells qs
  | [], _ => rfl
  | p :: r, qs => by simp [lnCells, lnCells_app r qs]
def OwnLN (w : World) (base : Nat) (v : Value) (ps : List LN) : Prop := w.ownsRow base 34 2 v ps.length (lnCells ps)
theorem OwnLN.nil (w : World) (base : Nat) : OwnLN w base (.slice none 0 0) [] := World.ownsRow_nil _ _ _ _
theorem OwnLN.ext {w w' : World} {base : Nat} {v : Value} {ps : List LN} (h : OwnLN w base v ps) (hx : Ext w w') : OwnLN w' base v ps := by
  refine World.ownsRow.kept (row := none) h ⟨hx.os, hx.tape, hx.output, hx.size, fun k hk _ => hx.block hk⟩ ?_
  cases hv : v.ownBlock with
  | none => exact .inl rfl
  | some g => exact .inr (by simp)
theorem OwnLN.blk {w : World} {base : Nat} {v : Value} {ps : List LN} (h : OwnLN w base v ps) {k : Nat} (hk : v.ownBlock = some k) : ∃ cs, Blk w k 34 cs := by
  rcases h.2 with ⟨h1, h2⟩ | ⟨g, cap, cur, hv, hg, hh, hnc, hcm, hcs, htk⟩
  · rw [h1] at hk; cases hk
  · rw [hv] at hk
    cases hk
    exact ⟨cur, hh⟩
theorem OwnLN.form {w : World} {base : Nat} {v : Value} {ps : List LN} (h : OwnLN w base v ps) (_hz : ps.length ≤ 1000000) (hr : ∀ k, k < ps.length → RI w (ps.getD k LN.zero).s.A (ps.getD k LN.zero).s.zs.length (ps.getD k LN.zero).s.zs) : ∃ A c, v = .slice A ps.length c ∧ RLN w A ps.length ps := by
  rcases h.2 with ⟨h1, h2⟩ | ⟨g, cap, cur, hv, hg, hh, hnc, hcm, hcs, htk⟩
  · exact ⟨none, 0, by rw [h1, h2], rfl, by omega, fun h => absurd h (by omega), hr⟩
  · refine ⟨some ⟨g, 0, none⟩, cap, hv, rfl, by omega, fun _ => ⟨g, 0, rfl, ?_, fun k hk => ?_⟩, hr⟩
    · exact (Blk.lt (show Blk w g 34 cur from hh))
    · have hb : Blk w g 34 cur := hh
      have key : ∀ j u, (lnCells ps)[j]? = some u → w.cell? ⟨g, j, none⟩ = some u := fun j u hj => by
        have hjl : j < ps.length * 2 := by
          rcases Nat.lt_or_ge j (ps.length * 2) with h | h
          · exact h
          · rw [List.getElem?_eq_none (by rw [lnCells_len]; exact h)] at hj; cases hj
        refine hb.cell j u ?_
        have : (cur.toList.take (ps.length * 2))[j]? = (lnCells ps)[j]? := by rw [htk]
        rw [List.getElem?_take_of_lt hjl, Array.getElem?_toList] at this
        rw [this, hj]
      obtain ⟨s0, s1⟩ := lnCells_at ps k hk
      rw [Nat.zero_add]
      exact ⟨key _ _ s0, key _ _ s1⟩
theorem lnInfo : (Tryz.prog.info? 34).map (fun i => (i.zero, i.size, i.bytes)) = some (some (.agg #[.int .i64 0, .slice none 0 0]), 2, 32) := by kernel_rfl
theorem run_pushLN {w : World} {base : Nat} {v : Value} {ps : List LN} {g0 : Nat} {x : LN} (hown : OwnLN w base v ps) (hb0 : w.cell? ⟨g0, 0, none⟩ = some (.int .i64 x.m)) (hb1 : w.cell? ⟨g0, 1, none⟩ = some x.s.val) (hlen : ps.length ≤ 1000000) (hbase : base ≤ w.heap.size) (ty : TypeId) :
    ∃ v' w', (Builtin.append_ #[30, 30] ty #[v, .slice (some ⟨g0, 0, none⟩) 1 1]).run Tryz.prog w = .ok v' w' ∧ OwnLN w' base v' (ps ++ [x]) ∧ w.grownBy w' v.ownBlock := by
  obtain ⟨i0, hi, hz0, hz1, hz2⟩ := info_parts lnInfo
  obtain ⟨g, cap, w', hr, h2, h3, _⟩ := run_append_lies (P := Tryz.prog) w 30 ty base 34 i0 (.agg #[.int .i64 0, .slice none 0 0]) 2 32 Tryz.underlying30 hi hz0 hz1 hz2 rfl (by decide) v ps.length _ hown ⟨g0, 0, none⟩ 1 1 [.int .i64 x.m, x.s.val] rfl
    (fun j u hj => by
      match j, hj with
      | 0, hj => simp at hj; subst hj; simpa [Addr.add] using hb0
      | 1, hj => simp at hj; subst hj; simpa [Addr.add] using hb1)
    (fun u hu => by
      simp at hu
      rcases hu with rfl | rfl
      · rfl
      · rfl) (by decide) (by unfold maxLen; omega) (by omega) hbase _ rfl
  exact ⟨_, w', hr, by unfold OwnLN; rw [lnCells_app]; simpa [lnCells] using h2, h3⟩
theorem step_pushLN {w : World} {ops : Array Oper} {o : Oper} {a : Act} {K : Act → World → Prop} {Q : Exit → Act → World → Prop} {E : Prop} (hgd : o.guard = none) (s x : Operand) (ho : o.op = .call { callee := .builtin .append, args := #[s, x], argTypes := #[30, 30] })
    (base : Nat) (v : Value) (ps : List LN) (hs : a.eval s = v) (hown : OwnLN w base v ps) (g0 : Nat) (z : LN) (hx : a.eval x = .slice (some ⟨g0, 0, none⟩) 1 1) (hb0 : w.cell? ⟨g0, 0, none⟩ = some (.int .i64 z.m)) (hb1 : w.cell? ⟨g0, 1, none⟩ = some z.s.val) (hlen : ps.length ≤ 1000000) (hbase : base ≤ w.heap.size)
    (h : ∀ v' w', OwnLN w' base v' (ps ++ [z]) → w.grownBy w' v.ownBlock → K (a.put o.dst v') w') : if Region.wanted o (yielded ops a.tmps) = true then Oper.wp Tryz.prog o a w K Q else E := by
  rw [if_pos (by simp [Region.wanted, hgd])]
  obtain ⟨v', w', hr', h2, h3⟩ := run_pushLN hown hb0 hb1 hlen hbase o.type
  unfold Oper.wp execOp
  simp only [ho, resolve, invoke, builtin, Sem.run_bind, Sem.run_pure, Result.andThen_ok, List.map_toArray, List.map_cons, List.map_nil, hs, hx, hr']
  exact h v' w' h2 h3
theorem grown_cell3 {a b : World} {row : Option Nat} {g o : Nat} {u : Value} (h : a.grownBy b row) (hl : g < a.heap.size) (hn : row ≠ some g) (hc : a.cell? ⟨g, o, none⟩ = some u) : b.cell? ⟨g, o, none⟩ = some u := by
  have := h.block g hl (fun e => hn e.symm)
  unfold World.cell? at hc ⊢
  simp only [this]
  exact hc
/-- What CopyLines keeps: the lines copied, each in memory of its own. -/
structure CpL (w : World) (v : Value) (cl ls : List LN) (W : World) : Prop where
  ext : Ext w W
  own : OwnLN W w.heap.size v cl
  zs : ∀ k, k < cl.length → lineZ cl k = lineZ ls k
  rows : ∀ k, k < cl.length → Own W w.heap.size (cl.getD k LN.zero).s.val (cl.getD k LN.zero).s.zs
theorem getD_snoc {α : Type} (l : List α) (x d : α) (k : Nat) : (l ++ [x]).getD k d = if k = l.length then x else l.getD k d := by
  rw [List.getD_eq_getElem?_getD, List.getD_eq_getElem?_getD]
  rcases Nat.lt_trichotomy k l.length with h | h | h
  · rw [if_neg (by omega), List.getElem?_append_left h]
  · subst h; rw [if_pos rfl, List.getElem?_append_right (Nat.le_refl _)]; simp
  · rw [if_neg (by omega), List.getElem?_eq_none (by simp; omega), List.getElem?_eq_none (by omega)]
section
variable {w W W' W2 : World} {v v' : Value} {cl ls : List LN}
theorem CpL.next (h : CpL w v cl ls W) (hx : Ext W W') : CpL w v cl ls W' := ⟨h.ext.trans hx, h.own.ext hx, h.zs, fun k hk => (h.rows k hk).ext hx⟩
theorem Own.kept {base : Nat} {u : Value} {zs : List Int} (h : Own W base u zs) (hv : OwnLN W base v cl) (hg : W.grownBy W2 v.ownBlock) : Own W2 base u zs :=
  h.other hg fun i hi e => by
    obtain ⟨c1, b1⟩ := h.blk hi
    obtain ⟨c2, b2⟩ := hv.blk e.symm
    exact b1.ne b2 (by decide) rfl
theorem CpL.push (h : CpL w v cl ls W) {x : LN} (hx : Own W w.heap.size x.s.val x.s.zs) (hz : x.s.zs = lineZ ls cl.length) (hg : W.grownBy W2 v.ownBlock) (ho : OwnLN W2 w.heap.size v' (cl ++ [x])) : CpL w v' (cl ++ [x]) ls W2 := by
  have hl : (cl ++ [x]).length = cl.length + 1 := by simp
  refine ⟨h.ext.grown hg fun k hk => (World.ownsRow.lt h.own k hk).1, ho, fun k hk => ?_, fun k hk => ?_⟩
  · unfold lineZ
    rw [getD_snoc]
    split
    · rename_i e; subst e; exact hz
    · exact h.zs k (by omega)
  · rw [getD_snoc]
    split
    · exact hx.kept h.own hg
    · exact (h.rows k (by omega)).kept h.own hg
end
/-- Lines handed back in memory of their own. -/
def RetLN (ls : List LN) (w : World) (e : Ending) (w' : World) : Prop := ∃ B d cl, e = .returned (.slice B (List.length cl) d) ∧ RLN w' B cl.length cl ∧ SameL cl ls ∧ Ext w w'
end Go.Proofs.YtfbdklminljecaaGreatDoor
