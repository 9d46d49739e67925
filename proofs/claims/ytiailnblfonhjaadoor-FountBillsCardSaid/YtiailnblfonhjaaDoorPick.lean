/-
  Plain law: the reference's picks, one after the other, are the stable order. And a slice of bools in memory.
-/
import Derived.Test.YtiailnblfonhjaaDoorREnough
import Derived.Test.YtiailnblfonhjaaDoorSharesLaw
import Derived.Test.YtiailnblfonhjaaDoorBill
namespace Go.Proofs.YtiailnblfonhjaaDoor
open Go.RowKit

/-- The best of the first that is not marked. -/
def pick (mk : List Bool) (rem : Nat → Int) : Nat → Int
  | 0 => -1
  | i + 1 => if mk.getD i false = false ∧ (pick mk rem i < 0 ∨ rem (pick mk rem i).toNat < rem i) then i else pick mk rem i
def markTo (n : Nat) (ord : List Int) : Nat → List Bool
  | 0 => List.replicate n false
  | t + 1 => (markTo n ord t).set (ord.getD t 0).toNat true
theorem mark_len (n : Nat) (ord : List Int) : ∀ t, (markTo n ord t).length = n
  | 0 => by simp [markTo]
  | t + 1 => by rw [markTo, List.length_set, mark_len n ord t]
theorem bset {l : List Bool} {i j : Nat} {z : Bool} (hi : i < l.length) : (l.set i z).getD j false = if j = i then z else l.getD j false := by
  rw [List.getD_eq_getElem?_getD, List.getElem?_set, List.getD_eq_getElem?_getD]
  by_cases h : j = i
  · subst h; simp [hi]
  · rw [if_neg (Ne.symm h), if_neg h]
section
variable {n : Nat} {rem : Nat → Int} {ord : List Int} (ho : Ord n (fun k => - rem k) ord)
include ho
theorem mark_at : ∀ t, t ≤ n → ∀ j, j < n → ((markTo n ord t).getD j false = true ↔ ∃ s, s < t ∧ ord.getD s 0 = (j : Int))
  | 0, _, j, hj => by
    rw [markTo, List.getD_eq_getElem?_getD, List.getElem?_replicate, if_pos hj]
    simp
  | t + 1, ht, j, hj => by
    obtain ⟨i, hi, he⟩ := ho.ix t (by omega)
    rw [markTo, he, Int.toNat_natCast, bset (by rw [mark_len]; exact hi)]
    by_cases h : j = i
    · rw [if_pos h]; subst h; simp only [true_iff]; exact ⟨t, by omega, he⟩
    · rw [if_neg h, mark_at t (by omega) j hj]
      constructor
      · rintro ⟨s, h1, h2⟩; exact ⟨s, by omega, h2⟩
      · rintro ⟨s, h1, h2⟩
        by_cases hst : s = t
        · subst hst; rw [he] at h2; omega
        · exact ⟨s, by omega, h2⟩
end
theorem pick_inv (mk : List Bool) (rem : Nat → Int) : ∀ i : Nat, (pick mk rem i < 0 ∧ ∀ j, j < i → mk.getD j false = true) ∨
    (∃ b : Nat, b < i ∧ pick mk rem i = b ∧ mk.getD b false = false ∧ ∀ j, j < i → mk.getD j false = false → j ≠ b → rem j < rem b ∨ (rem j = rem b ∧ b < j))
  | 0 => .inl ⟨by simp [pick], fun j hj => absurd hj (by omega)⟩
  | i + 1 => by
    rw [pick]
    rcases pick_inv mk rem i with ⟨h1, h2⟩ | ⟨b, h1, h2, h3, h4⟩
    · by_cases hm : mk.getD i false = false
      · rw [if_pos ⟨hm, .inl h1⟩]
        refine .inr ⟨i, by omega, rfl, hm, fun j hj hf hne => ?_⟩
        rw [h2 j (by omega)] at hf; cases hf
      · rw [if_neg (fun h => hm h.1)]
        refine .inl ⟨h1, fun j hj => ?_⟩
        by_cases e : j < i
        · exact h2 j e
        · obtain rfl : j = i := by omega
          simpa using hm
    · by_cases hm : mk.getD i false = false
      · by_cases hr : rem b < rem i
        · rw [if_pos ⟨hm, .inr (by rw [h2, Int.toNat_natCast]; exact hr)⟩]
          refine .inr ⟨i, by omega, rfl, hm, fun j hj hf hne => ?_⟩
          by_cases hjb : j = b
          · subst hjb; exact .inl hr
          · have := h4 j (by omega) hf hjb; omega
        · rw [if_neg (by rintro ⟨_, h | h⟩; · omega
                         · rw [h2, Int.toNat_natCast] at h; exact hr h)]
          refine .inr ⟨b, by omega, h2, h3, fun j hj hf hne => ?_⟩
          by_cases e : j < i
          · exact h4 j e hf hne
          · obtain rfl : j = i := by omega
            omega
      · rw [if_neg (fun h => hm h.1)]
        refine .inr ⟨b, by omega, h2, h3, fun j hj hf hne => ?_⟩
        by_cases e : j < i
        · exact h4 j e hf hne
        · obtain rfl : j = i := by omega
          exact absurd hf hm
/-- The pick is the next in the order. -/
theorem pick_ord {n : Nat} {rem : Nat → Int} {ord : List Int} (ho : Ord n (fun k => - rem k) ord) (t : Nat) (ht : t < n) : pick (markTo n ord t) rem n = ord.getD t 0 := by
  obtain ⟨c, hc, hce⟩ := ho.ix t ht
  have hcm : (markTo n ord t).getD c false = false := by
    rw [← Bool.not_eq_true, mark_at ho t (by omega) c hc]
    rintro ⟨s, h1, h2⟩
    have := ho.inj (s := s) (t := t) (by omega) ht (by rw [h2, hce])
    omega
  rcases pick_inv (markTo n ord t) rem n with ⟨_, h2⟩ | ⟨b, h1, h2, h3, h4⟩
  · rw [h2 c hc] at hcm; cases hcm
  · rw [h2, hce]
    by_cases hcb : c = b
    · rw [hcb]
    · exfalso
      have h5 := h4 c hc hcm hcb
      obtain ⟨s, hs, hse⟩ := ho.all b h1
      have h6 : ¬ s < t := fun h => by
        have := (mark_at ho t (by omega) b h1).2 ⟨s, h, hse⟩
        rw [h3] at this; cases this
      by_cases hst : s = t
      · subst hst; rw [hce] at hse; omega
      · have := ho.asc t s (by omega) hs
        rw [hce, hse, Int.toNat_natCast, Int.toNat_natCast] at this
        omega
/-- The sum of the cells of a block. -/
def sumW (wr : World) (g n : Nat) : Int := sumTo (fun i => intOf ((wr.cell? ⟨g, i, none⟩).getD (.int .i64 0))) n
theorem sumW_own {wr : World} {base g n c : Nat} {zs : List Int} (h : Own wr base (.slice (some ⟨g, 0, none⟩) n c) zs) : sumW wr g zs.length = sumZ zs zs.length :=
  sumTo_congr _ _ _ fun k hk => by rw [(h.at rfl k hk).1]; rfl

theorem boolInfo : (Tryd.prog.info? 4).map (fun i => (i.zero, i.size, i.bytes)) = some (some (.bool false), 1, 1) := by kernel_rfl
def OwnB (w : World) (base : Nat) (v : Value) (bs : List Bool) : Prop := w.ownsRow base 4 1 v bs.length (bs.map Value.bool)
theorem OwnB.ext {w w' : World} {base : Nat} {v : Value} {bs : List Bool} (h : OwnB w base v bs) (hx : Ext w w') : OwnB w' base v bs := by
  refine World.ownsRow.kept (row := none) h ⟨hx.os, hx.tape, hx.output, hx.size, fun k hk _ => hx.block hk⟩ ?_
  cases hv : v.ownBlock with
  | none => exact .inl rfl
  | some g => exact .inr (by simp)
section
variable {a b : World} {base : Nat} {v : Value} {bs : List Bool} {zs : List Int}
theorem OwnB.block (h : OwnB a base v bs) (hk : ∀ g, v.ownBlock = some g → b.heap[g]? = a.heap[g]?) : OwnB b base v bs := by
  refine ⟨h.1, ?_⟩
  rcases h.2 with h' | ⟨g, cap, cur, hv, hg, hh, r⟩
  · exact .inl h'
  · exact .inr ⟨g, cap, cur, hv, hg, (hk g (by rw [hv]; rfl)).trans hh, r⟩
theorem OwnB.set {g n cap : Nat} (h : OwnB a base (.slice (some ⟨g, 0, none⟩) n cap) bs) (i : Nat) (z : Bool) : OwnB (a.setCell ⟨g, i, none⟩ (.bool z)) base (.slice (some ⟨g, 0, none⟩) n cap) (bs.set i z) := by
  obtain ⟨_, h2⟩ := h
  refine ⟨by simp, ?_⟩
  rcases h2 with ⟨h', _⟩ | ⟨g', cap', cur, hv, hg, hh, r1, r2, r3, r4⟩
  · cases h'
  · obtain ⟨e1, _, _⟩ := Value.slice.inj hv
    cases e1
    have hb : Blk a g 4 cur := hh
    refine .inr ⟨g, cap', cur.setIfInBounds i (.bool z), by rw [List.length_set]; exact hv, hg, hb.set_ i _, by rw [List.length_set]; exact r1, r2, by simpa using r3, ?_⟩
    rw [Array.toList_setIfInBounds, List.length_set, List.take_set, r4, List.map_set]
theorem OwnB.at (h : OwnB a base v bs) {g n cap : Nat} (hv : v = .slice (some ⟨g, 0, none⟩) n cap) (i : Nat) (hi : i < bs.length) : a.cell? ⟨g, i, none⟩ = some (.bool (bs.getD i false)) ∧ a.frozen? ⟨g, i, none⟩ = false ∧ n = bs.length ∧ n ≤ cap ∧ cap ≤ maxLen ∧ g < a.heap.size := by
  subst hv
  have h0 := h
  obtain ⟨h1, h2⟩ := h
  rcases h2 with ⟨h', _⟩ | ⟨g', cap', cur, hv, hg, hh, r1, r2, r3, r4⟩
  · cases h'
  · obtain ⟨e1, e2, e3⟩ := Value.slice.inj hv
    cases e1
    have hb : Blk a g 4 cur := hh
    refine ⟨hb.cell i _ ?_, hb.frozen i, e2, by omega, by rw [e3]; exact r2, hb.lt⟩
    have h4 : (cur.toList.take (bs.length * 1))[i]? = (bs.map Value.bool)[i]? := by rw [r4]
    rw [List.getElem?_take_of_lt (by omega), Array.getElem?_toList, List.getElem?_map, List.getElem?_eq_getElem hi] at h4
    rw [h4, List.getD_eq_getElem?_getD, List.getElem?_eq_getElem hi]; rfl
end
theorem made_falses (n : Nat) : (madeCells (Value.bool false).cells (n * 1)).toList = (List.replicate n false).map Value.bool := by
  unfold madeCells
  simp only [Value.cells, List.map_replicate, List.eq_replicate_iff]
  simp
  intro a _
  rw [Nat.mod_one]; rfl
theorem list_makeB {w : World} {ops : Array Oper} {rest : List Oper} {o : Oper} {a : Act} {Q : Exit → Act → World → Prop} (hgd : o.guard = none) (l c : Operand) (hop : o.op = Op.makeSlice 110 l c)
    (n : Nat) (hl : a.eval l = .int .i64 (n : Int)) (hc : a.eval c = .int .i64 (n : Int)) (hn : n ≤ 1000000)
    (h : ∀ w', OwnB w' w.heap.size (.slice (some ⟨w.heap.size, 0, none⟩) n n) (List.replicate n false) → Ext w w' → w.heap.size < w'.heap.size → wpList Tryd.prog ops Q rest (a.put o.dst (.slice (some ⟨w.heap.size, 0, none⟩) n n)) w') : wpList Tryd.prog ops Q (o :: rest) a w := by
  obtain ⟨i0, hi, hz0, hz1, hz2⟩ := info_parts boolInfo
  refine wpList_make_full w hgd l c 110 hop w.heap.size 4 i0 (.bool false) 1 Tryd.underlying110 hi hz0 hz1 .i64 .i64 (n : Int) (n : Int) n hl hc rfl rfl (by rw [hz2]; omega) (by unfold maxLen; omega) (Nat.le_refl _) ?_
  intro w' hown hg
  rw [made_falses] at hown
  have ho : OwnB w' w.heap.size (.slice (some ⟨w.heap.size, 0, none⟩) n n) (List.replicate n false) := by
    unfold OwnB; rw [List.length_replicate]; exact hown
  have hx : Ext w w' := Ext.grown (Ext.refl _) hg fun k hk => by cases hk
  exact h w' ho hx (World.ownsRow.lt ho w.heap.size rfl).2
end Go.Proofs.YtiailnblfonhjaaDoor
