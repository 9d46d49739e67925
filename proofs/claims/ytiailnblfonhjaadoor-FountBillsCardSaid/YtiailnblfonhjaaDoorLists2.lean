/-
  Walk: CopyLists, copies of lists of lists.
-/
import Derived.Test.YtiailnblfonhjaaDoorEnough
namespace Go.Proofs.YtiailnblfonhjaaDoor
open Go.RowKit

theorem SL.of_own {w : World} {base c : Nat} {A : Option Addr} {zs : List Int} (h : Own w base (.slice A zs.length c) zs) (hz : zs.length ≤ 1000000) : SL w base A c zs := by
  obtain ⟨A', c', he, hc, hr⟩ := h.form (by omega)
  obtain ⟨e1, _, e3⟩ := Value.slice.inj he
  subst e1 e3
  exact ⟨h, hr, hc⟩
theorem SL.grown {w w' : World} {base c : Nat} {A : Option Addr} {zs : List Int} {row : Option Nat} (h : SL w base A c zs) (hz : zs.length ≤ 1000000) (hg : w.grownBy w' row) (hne : ∀ g, row = some g → (Value.slice A zs.length c).ownBlock ≠ some g) : SL w' base A c zs :=
  SL.of_own (World.ownsRow.kept (row := row) h.own hg (by
    cases hv : (Value.slice A zs.length c).ownBlock with
    | none => exact .inl rfl
    | some g => exact .inr (fun e => hne g e.symm hv))) hz
theorem own_block {w : World} {base n : Nat} {t : TypeId} {v : Value} {cs : List Value} {g : Nat} (h : w.ownsRow base t 1 v n cs) (hv : v.ownBlock = some g) : ∃ cur, Blk w g t cur := by
  rcases h.2 with ⟨rfl, _⟩ | ⟨g', cap, cur, rfl, _, hh, _⟩
  · cases hv
  · cases hv
    exact ⟨cur, hh⟩
/-- A slice of slices and a slice of ints do not share a block: their types differ. -/
theorem own_ne {w : World} {base base' c : Nat} {A : Option Addr} {zs : List Int} {v : Value} {tk : List SI} (hT : OwnL w base v tk) (hs : SL w base' A c zs) : ∀ g, v.ownBlock = some g → (Value.slice A zs.length c).ownBlock ≠ some g := by
  intro g h1 h2
  obtain ⟨c1, b1⟩ := own_block hT h1
  obtain ⟨c2, b2⟩ := own_block hs.own h2
  unfold Blk at b1 b2
  rw [b1] at b2
  simp at b2
/-- What the copying keeps. -/
structure Cop (w wr : World) (ls : List (List Int)) (k : Nat) (v : Value) (tk : List SI) : Prop where
  own : OwnL wr w.heap.size v tk
  len : tk.length = k
  same : tk.map SI.zs = ls.take k
  rows : ∀ s ∈ tk, SL wr w.heap.size s.A s.c s.zs ∧ s.zs.length ≤ 1000000
  ext : Ext w wr
theorem Cop.next {w wr w' : World} {ls : List (List Int)} {k : Nat} {v : Value} {tk : List SI} (h : Cop w wr ls k v tk) (hx : Ext wr w') : Cop w w' ls k v tk :=
  ⟨h.own.ext hx, h.len, h.same, fun s hs => ⟨(h.rows s hs).1.ext hx, (h.rows s hs).2⟩, h.ext.trans hx⟩
theorem Cop.push {w wr w' : World} {ls : List (List Int)} {k : Nat} {v v' : Value} {tk : List SI} {s : SI} (h : Cop w wr ls k v tk) (hs : SL wr w.heap.size s.A s.c s.zs) (hz : s.zs.length ≤ 1000000) (hk : k < ls.length) (he : s.zs = ls.getD k [])
    (hg : wr.grownBy w' v.ownBlock) (ho : OwnL w' w.heap.size v' (tk ++ [s])) : Cop w w' ls (k + 1) v' (tk ++ [s]) := by
  refine ⟨ho, by simp [h.len], ?_, fun x hx => ?_, Ext.grown h.ext hg fun g hv => (World.ownsRow.lt h.own g hv).1⟩
  · rw [List.map_append, h.same, List.map_cons, List.map_nil, he, List.take_succ_eq_append_getElem hk, List.getD_eq_getElem?_getD, List.getElem?_eq_getElem hk]; rfl
  · rcases List.mem_append.1 hx with h1 | h1
    · obtain ⟨h2, h3⟩ := h.rows x h1
      exact ⟨h2.grown h3 hg (own_ne h.own h2), h3⟩
    · rw [List.mem_singleton.1 h1]
      exact ⟨hs.grown hz hg (own_ne h.own hs), hz⟩
def RetL (ls : List (List Int)) (w : World) (e : Ending) (w' : World) : Prop := ∃ A c rows, e = .returned (.slice A rows.length c) ∧ RL w' A rows.length rows ∧ rows.map SI.zs = ls ∧ Ext w w'
theorem Cop.done {w wr : World} {ls : List (List Int)} {v : Value} {tk : List SI} (h : Cop w wr ls ls.length v tk) (hl : ls.length ≤ 1000000) : RetL ls w (.returned v) wr := by
  obtain ⟨A, c, rfl, hr⟩ := h.own.form (by rw [h.len]; exact hl) (fun s hs => (h.rows s hs).1.ri)
  exact ⟨A, c, tk, rfl, hr, by rw [h.same, List.take_length], h.ext⟩
set_option maxRecDepth 100000 in
set_option maxHeartbeats 4000000 in
theorem copyLists_any (B : Option Addr) (d : Nat) (rows : List SI) (w : World) (h : RL w B rows.length rows) (hl : rows.length ≤ 1000) (hz : ∀ k, k < rows.length → (rows.getD k SI.none_).zs.length ≤ 1000) :
    Calls Tryd.prog 37 #[.slice B rows.length d] w (RetL (rows.map SI.zs) w) := by
  have HR := Lib.hid h; have HZ := Lib.hid hz; clear h hz
  have HLS : Hid ((rows.map SI.zs).length = rows.length) := Lib.hid (by simp)
  have HLA : Hid (∀ k, k < rows.length → (rows.getD k SI.none_).zs = (rows.map SI.zs).getD k []) := Lib.hid (fun k hk => (zs_at rows k hk).symm)
  generalize rows.map SI.zs = ls at *
  go_enter Tryd.func37, Tryd.ntmps37
  go_wp2
  go_loopw [3, 4] (fun v i wr => ∃ (k : Nat) (tk : List SI), k ≤ rows.length ∧ i = .int .i64 k ∧ Cop w wr ls k v tk) (fun _ i _ => rows.length - (intOf i).toNat)
  case atStart => exact ⟨0, [], Nat.zero_le _, rfl, ⟨OwnL.nil _ _, rfl, by simp, fun s hs => (by cases hs), (by repeat (first | exact Ext.refl _ | assumption | refine Ext.alloc ?_ _ | refine Ext.drew ?_ | refine Ext.drewN ?_ _ | (refine Ext.setCell ?_ (by simp <;> omega) _) | refine Ext.trans ?_ (by assumption)))⟩⟩
  case round =>
    obtain ⟨k, tk, hk, rfl, hC⟩ := hrel
    have HC := Lib.hid hC
    by_cases hlt : k < rows.length
    case pos =>
      obtain ⟨_, _, hrow, hrs⟩ := HR.out.ext hC.ext
      obtain ⟨b, off, rfl, hbw, hcell⟩ := hrow (by omega)
      have c1 := hcell k hlt
      have HX := Lib.hid (hrs k hlt)
      have hzn := HZ.out k hlt
      have HE := Lib.hid (HLA.out k hlt)
      have hki : (k : Int) < (rows.length : Int) := by omega
      have HTL : Hid (tk.length ≤ 1000000) := Lib.hid (by rw [hC.len]; omega)
      have HSZ := Lib.hid hC.ext.size
      clear hrow hrs hcell hC
      generalize rows.getD k SI.none_ = s at *
      obtain ⟨sA, sc, zs⟩ := s
      simp only [SI.val] at *
      have CI := Lib.hid (fun W h => copyInts_any sA sc zs W h (by omega))
      go_wp2_with (first | (go_at_call 21; refine Calls.mono (CI.out _ ?_) ?_; (exact HX.out.ext (by repeat (first | exact Ext.refl _ | assumption | refine Ext.alloc ?_ _ | refine Ext.drew ?_ | refine Ext.drewN ?_ _ | (refine Ext.setCell ?_ (by simp <;> omega) _) | refine Ext.trans ?_ (by assumption)))); rintro e w1 ⟨Z, cz, rfl, hS, hb⟩; have HS := Lib.hid hS; have HB := Lib.hid hb; clear hS hb) | (at_builtin; refine list_pushL rfl (.tmp 11) (.tmp 17) rfl w.heap.size _ tk rfl (HC.out.own.ext (Ext.trans HB.out (by repeat (first | exact Ext.refl _ | assumption | refine Ext.alloc ?_ _ | refine Ext.drew ?_ | refine Ext.drewN ?_ _ | (refine Ext.setCell ?_ (by simp <;> omega) _) | refine Ext.trans ?_ (by assumption))))) w1.heap.size ⟨Z, cz, zs⟩ rfl (by simp [SI.val]) HTL.out (by have h1 := HB.out.size; have h2 := HSZ.out; simp at h1 ⊢; omega) ?_; intro T' W5 hown' hg'; have HO' := Lib.hid hown'; have HG' := Lib.hid hg'; clear hown' hg'))
      go_roundw
      case rel => exact ⟨k + 1, _, by omega, by go_num, (HC.out.next (Ext.trans HB.out (by repeat (first | exact Ext.refl _ | assumption | refine Ext.alloc ?_ _ | refine Ext.drew ?_ | refine Ext.drewN ?_ _ | (refine Ext.setCell ?_ (by simp <;> omega) _) | refine Ext.trans ?_ (by assumption))))).push (s := ⟨Z, cz, zs⟩) ((HS.out.mono (by have h2 := HSZ.out; simp; omega)).ext (by repeat (first | exact Ext.refl _ | assumption | refine Ext.alloc ?_ _ | refine Ext.drew ?_ | refine Ext.drewN ?_ _ | (refine Ext.setCell ?_ (by simp <;> omega) _) | refine Ext.trans ?_ (by assumption)))) (by simp only; omega) (by rw [HLS.out]; exact hlt) HE.out HG'.out HO'.out⟩
      case measure => simp [intOf]; omega
    case neg =>
      obtain rfl : k = rows.length := by omega
      rw [← HLS.out] at hC
      have HD := Lib.hid (Cop.done hC (by rw [HLS.out]; omega))
      clear hC
      go_wp2
      go_ret
      exact HD.out
end Go.Proofs.YtiailnblfonhjaaDoor
