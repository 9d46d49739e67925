/-
  Arguments opened: slices of slices of slices of ints.
-/
import Derived.Test.YtfbdklminljecaaGreatDoorGE
import Derived.Test.YtfbdklminljecaaGreatDoorColMem
namespace Go.Proofs.YtfbdklminljecaaGreatDoor
open Go.ChangeShapes Go.WideShapes Go.ChangeAt Go.RowKit Go.Joins Go.Deep

section
variable {H : Type} {enc : TypeId × Value → H} {w : World} {held : Bool} {b0 : Nat} {d : DataW H} {p : List MemPlace} {v : Value} {r : Reach}
set_option maxRecDepth 100000 in
/-- A slice of slices of ints that came in, by its cells. -/
theorem open_RL_cells {fuel : Nat} {cs : List Value} {x : DataW H × List MemPlace} (h : DataW.trod enc Tryz.prog w 0 (fun _ => true) held fuel 26 cs = some x) :
    ∃ A c rows, cs = [.slice A (List.length rows) c] ∧ RL w A rows.length rows := by
  rcases open_slice Tryz.underlying26 h with ⟨hcs, _⟩ | ⟨a, len, cap, m, n, D, Pl, hcs, hb, hl, hm, hmm, hx, hi⟩
  · exact ⟨none, 0, [], hcs, RL.none_ w⟩
  · have hc1 : Tryz.prog.cellsOf 25 = 1 := by kernel_rfl
    have hel : ∀ i, i < len → ∃ s : SI, w.cell? (a.add i) = some s.val ∧ RI w s.A s.zs.length s.zs := fun i hil => by
      obtain ⟨cs', hc, ht'⟩ := hi i (by simp only [if_true] at hmm; omega)
      rw [hc1, Nat.mul_one] at hc
      obtain ⟨_, hcl, hat⟩ := World.cells?_some hc
      obtain ⟨A, c, zs, e, hr, _⟩ := open_RI_cells ht'
      subst e
      have := hat 0 (by omega)
      refine ⟨⟨A, c, zs⟩, ?_, hr⟩
      have e0 : (a.add i).add 0 = a.add i := by unfold Addr.add; simp
      rw [e0] at this
      exact this
    obtain ⟨g, hg⟩ : ∃ g : Nat → SI, ∀ i, i < len → w.cell? (a.add i) = some (g i).val ∧ RI w (g i).A (g i).zs.length (g i).zs :=
      ⟨fun i => if h : i < len then Classical.choose (hel i h) else SI.none_, fun i hil => by simp only [dif_pos hil]; exact Classical.choose_spec (hel i hil)⟩
    have hlen : ((List.range len).map g).length = len := by simp
    have hat : ∀ k, k < len → ((List.range len).map g).getD k SI.none_ = g k := fun k hk => by
      rw [List.getD_eq_getElem?_getD, List.getElem?_map, List.getElem?_range hk]; rfl
    refine ⟨some a, cap, (List.range len).map g, by rw [hlen]; exact hcs, ⟨rfl, by rw [hlen]; unfold maxLen at hm; omega, fun hp => ?_, fun k hk => ?_⟩⟩
    · rw [hlen] at hp
      refine ⟨a.block, a.off, by rw [spot_none (hg 0 hp).1], cell_lt (cell_add (hg 0 hp).1), fun k hk => ?_⟩
      rw [hlen] at hk
      rw [hat k hk]; exact cell_add (hg k hk).1
    · rw [hlen] at hk
      rw [hat k hk]; exact (hg k hk).2
end
end Go.Proofs.YtfbdklminljecaaGreatDoor
