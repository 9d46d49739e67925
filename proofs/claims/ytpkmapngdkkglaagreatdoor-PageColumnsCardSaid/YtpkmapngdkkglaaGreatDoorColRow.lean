/-
  PageColumns: the table copied row by row; the answers depend on the cells alone.
-/
import Derived.Test.YtpkmapngdkkglaaGreatDoorColSpec
namespace Go.Proofs.YtpkmapngdkkglaaGreatDoor
open Go.RowKit

/-- A row in memory of one's own. -/
def Row3 (w : World) (s : S3) (ls : List (List Int)) : Prop :=
  ∃ base, OwnL w base s.val s.rows ∧ s.rows.map SI.zs = ls ∧ s.rows.length ≤ 1000000 ∧ ∀ x ∈ s.rows, SL w base x.A x.c x.zs ∧ x.zs.length ≤ 1000000
theorem Row3.next {w w' : World} {s : S3} {ls : List (List Int)} (h : Row3 w s ls) (hx : Ext w w') : Row3 w' s ls := by
  obtain ⟨base, h1, h2, h3, h4⟩ := h
  exact ⟨base, h1.ext hx, h2, h3, fun x hx' => ⟨(h4 x hx').1.ext hx, (h4 x hx').2⟩⟩
theorem Row3.kept {w w' : World} {s : S3} {ls : List (List Int)} {v : Value} {base : Nat} {xs : List S3} (h : Row3 w s ls) (hv : OwnLL w base v xs) (hg : w.grownBy w' v.ownBlock) : Row3 w' s ls := by
  obtain ⟨b, own, h2, h3, rows⟩ := h
  refine ⟨b, World.ownsRow.kept (row := v.ownBlock) own hg ?_, h2, h3, fun x hx => ?_⟩
  · cases hu : s.val.ownBlock with
    | none => exact .inl rfl
    | some g =>
      refine .inr fun e => ?_
      obtain ⟨c1, b1⟩ := own_block hv e.symm
      obtain ⟨c2, b2⟩ := own_block own hu
      unfold Blk at b1 b2
      rw [b1] at b2
      simp at b2
  · obtain ⟨k1, k2⟩ := rows x hx
    refine ⟨k1.grown k2 hg fun g h1 h4 => ?_, k2⟩
    obtain ⟨c1, b1⟩ := own_block hv h1
    obtain ⟨c2, b2⟩ := own_block k1.own h4
    unfold Blk at b1 b2
    rw [b1] at b2
    simp at b2
theorem Row3.of_cop {w wr : World} {ls : List (List Int)} {A : Option Addr} {c : Nat} {tk : List SI} (h : Cop w wr ls ls.length (.slice A tk.length c) tk) (hl : ls.length ≤ 1000000) : Row3 wr ⟨A, c, tk⟩ ls :=
  ⟨w.heap.size, h.own, by rw [h.same, List.take_length], by simp only; rw [h.len]; exact hl, h.rows⟩
theorem Row3.rl {w : World} {s : S3} {ls : List (List Int)} (h : Row3 w s ls) : RL w s.A s.rows.length s.rows := by
  obtain ⟨b, own, h2, h3, rows⟩ := h
  obtain ⟨A, c, hv, hr⟩ := own.form h3 (fun x hx => (rows x hx).1.ri)
  obtain ⟨e1, _, _⟩ := Value.slice.inj hv
  rw [e1]; exact hr
/-- The rows copied so far. -/
structure Cps (w wr : World) (xs : List S3) (k : Nat) (v : Value) (tk : List S3) : Prop where
  own : OwnLL wr (w.heap.size + 1) v tk
  len : tk.length = k
  rows : ∀ j, j < k → Row3 wr (tk.getD j S3.none_) ((xs.getD j S3.none_).rows.map SI.zs)
theorem Cps.start (w wr : World) (xs : List S3) : Cps w wr xs 0 (.slice none 0 0) [] := ⟨OwnLL.nil _ _, rfl, fun _ h => absurd h (by omega)⟩
theorem Cps.next {w wr w' : World} {xs : List S3} {k : Nat} {v : Value} {tk : List S3} (h : Cps w wr xs k v tk) (hx : Ext wr w') : Cps w w' xs k v tk :=
  ⟨h.own.ext hx, h.len, fun j hj => (h.rows j hj).next hx⟩
theorem Cps.push {w wr w' : World} {xs : List S3} {k : Nat} {v v' : Value} {tk : List S3} {s : S3} (h : Cps w wr xs k v tk) (hs : Row3 wr s ((xs.getD k S3.none_).rows.map SI.zs)) (hg : wr.grownBy w' v.ownBlock) (ho : OwnLL w' (w.heap.size + 1) v' (tk ++ [s])) : Cps w w' xs (k + 1) v' (tk ++ [s]) := by
  refine ⟨ho, by simp [h.len], fun j hj => ?_⟩
  rcases Nat.lt_or_ge j k with h1 | h1
  · rw [List.getD_eq_getElem?_getD (l := tk ++ [s]), List.getElem?_append_left (by rw [h.len]; exact h1), ← List.getD_eq_getElem?_getD]
    exact (h.rows j h1).kept h.own hg
  · obtain rfl : j = k := by omega
    rw [List.getD_eq_getElem?_getD (l := tk ++ [s]), List.getElem?_append_right (by rw [h.len]; exact Nat.le_refl _), h.len, Nat.sub_self]
    exact hs.kept h.own hg
theorem Cps.grow {w wr w' : World} {xs : List S3} {k : Nat} {v : Value} {tk : List S3} (h : Cps w wr xs k v tk) (hx : Ext w wr) (hg : wr.grownBy w' v.ownBlock) : Ext w w' :=
  hx.grown hg fun g hv => by have := (World.ownsRow.lt h.own g hv).1; omega
theorem Cps.blk {w wr w' : World} {xs : List S3} {k : Nat} {v : Value} {tk : List S3} {t : TypeId} {cs : Array Value} (h : Cps w wr xs k v tk) (hb : Blk wr w.heap.size t cs) (hg : wr.grownBy w' v.ownBlock) : Blk w' w.heap.size t cs :=
  (hg.block _ hb.lt fun e => by have := (World.ownsRow.lt h.own _ e.symm).1; omega).trans hb
/-- A row appended. -/
theorem Cps.step {w w1 W w' : World} {xs : List S3} {k : Nat} {v v' : Value} {tk : List S3} {s : S3} {t : TypeId} {cs : Array Value} (h : Cps w w1 xs k v tk) (hs : Row3 w1 s ((xs.getD k S3.none_).rows.map SI.zs)) (hb : Blk w1 w.heap.size t cs) (hx : Ext w w1) (h1 : Ext w1 W)
    (hg : W.grownBy w' v.ownBlock) (ho : OwnLL w' (w.heap.size + 1) v' (tk ++ [s])) : Cps w w' xs (k + 1) v' (tk ++ [s]) ∧ Blk w' w.heap.size t cs ∧ Ext w w' :=
  ⟨(h.next h1).push (hs.next h1) hg ho, (h.next h1).blk (hb.ext h1) hg, (h.next h1).grow (hx.trans h1) hg⟩
theorem Cps.r3 {w wr : World} {xs : List S3} {k : Nat} {v : Value} {tk : List S3} (h : Cps w wr xs k v tk) (hk : k ≤ 1000000) : ∃ A c, v = .slice A tk.length c ∧ R3 wr A tk.length tk :=
  h.own.form (by rw [h.len]; exact hk) fun j hj => (h.rows j (by rw [← h.len]; exact hj)).rl
theorem Cps.same {w wr : World} {xs : List S3} {v : Value} {tk : List S3} (h : Cps w wr xs xs.length v tk) : ∀ j, (tk.getD j S3.none_).rows.map SI.zs = (xs.getD j S3.none_).rows.map SI.zs := fun j => by
  rcases Nat.lt_or_ge j xs.length with h1 | h1
  · obtain ⟨_, _, h2, _⟩ := h.rows j h1
    exact h2
  · rw [List.getD_eq_getElem?_getD, List.getD_eq_getElem?_getD, List.getElem?_eq_none (by rw [h.len]; exact h1), List.getElem?_eq_none h1]
theorem zs_of {rows rows' : List SI} (h : rows.map SI.zs = rows'.map SI.zs) (i : Nat) : (rows.getD i SI.none_).zs = (rows'.getD i SI.none_).zs := by
  have h1 : ∀ l : List SI, (l.getD i SI.none_).zs = (l.map SI.zs).getD i [] := fun l => by
    rw [List.getD_eq_getElem?_getD, List.getD_eq_getElem?_getD, List.getElem?_map]
    cases l[i]? <;> rfl
  rw [h1, h1, h]
section
variable {tk xs : List S3} (hl : tk.length = xs.length) (hs : ∀ j, (tk.getD j S3.none_).rows.map SI.zs = (xs.getD j S3.none_).rows.map SI.zs)
include hs
theorem rlen_same : rlen tk = rlen xs := funext fun j => by
  have := congrArg List.length (hs j)
  simpa [rlen] using this
theorem cz_same : cz tk = cz xs := funext fun j => funext fun i => zs_of (hs j) i
theorem colV_same (ss : List TS) : ∀ i, colV ss tk i = colV ss xs i
  | 0 => rfl
  | i + 1 => by
    have hw : wdt ss tk i = wdt ss xs i := by unfold wdt; rw [cz_same hs]
    rw [colV, colV, colV_same ss i, rlen_same hs, hw]
include hl
theorem colE_same (m : Nat) : colE m tk = colE m xs := by
  have hr : rowE m tk = rowE m xs := by unfold rowE; rw [rlen_same hs, cz_same hs]
  unfold colE
  rw [hl, hr]
theorem colL_same (ss : List TS) : colL ss tk = colL ss xs := by
  unfold colL
  rw [colE_same hl hs, colV_same hs ss, hl]
end
end Go.Proofs.YtpkmapngdkkglaaGreatDoor
