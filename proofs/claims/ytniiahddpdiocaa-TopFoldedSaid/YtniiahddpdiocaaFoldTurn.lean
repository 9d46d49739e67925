/-
  Walks: slices.Reverse of leaves, turned.
-/
import Derived.Test.YtniiahddpdiocaaFoldMem
import Derived.Deep.RegionHeld3
import Derived.Deep.DrawnRows
import Derived.Deep.DeepCutAuto
import Derived.Deep.CutBlock
import Derived.Deep.CutRange
import Derived.Shelf.RegionOpenPlain
namespace Go.Proofs.Ytniiahddpdiocaa
open Go.RowKit

/-- Two leaves are exchanged. -/
theorem OLf.swap {w w' : World} {base g cap n : Nat} {l : List Lf} {i j : Nat} {x y : Lf} (h : w.ownsRow base 90 4 (.slice (some ⟨g, 0, none⟩) n cap) n (lfCells l)) (hn : l.length = n) (hi : i < n) (hj : j < n)
    (he : w' = ((((((((w.setCell ⟨g, i * 4, none⟩ (.int .i64 x.c)).setCell ⟨g, i * 4 + 1, none⟩ (.int .i64 x.r)).setCell ⟨g, i * 4 + 2, none⟩ (.int .i64 x.o)).setCell ⟨g, i * 4 + 3, none⟩ (.int .i64 x.u)).setCell ⟨g, j * 4, none⟩ (.int .i64 y.c)).setCell ⟨g, j * 4 + 1, none⟩ (.int .i64 y.r)).setCell ⟨g, j * 4 + 2, none⟩ (.int .i64 y.o)).setCell ⟨g, j * 4 + 3, none⟩ (.int .i64 y.u))) :
    w'.ownsRow base 90 4 (.slice (some ⟨g, 0, none⟩) n cap) n (lfCells ((l.set i x).set j y)) ∧ w.grownBy w' (some g) := by
  subst he
  rw [lfCells_set _ j y (by rw [List.length_set]; omega), lfCells_set l i x (by omega)]
  have s1 := World.ownsRow.stored h (i * 4) (.int .i64 x.c)
  have s2 := World.ownsRow.stored s1.1 (i * 4 + 1) (.int .i64 x.r)
  have s3 := World.ownsRow.stored s2.1 (i * 4 + 2) (.int .i64 x.o)
  have s4 := World.ownsRow.stored s3.1 (i * 4 + 3) (.int .i64 x.u)
  have s5 := World.ownsRow.stored s4.1 (j * 4) (.int .i64 y.c)
  have s6 := World.ownsRow.stored s5.1 (j * 4 + 1) (.int .i64 y.r)
  have s7 := World.ownsRow.stored s6.1 (j * 4 + 2) (.int .i64 y.o)
  have s8 := World.ownsRow.stored s7.1 (j * 4 + 3) (.int .i64 y.u)
  exact ⟨s8.1, s1.2.trans (s2.2.trans (s3.2.trans (s4.2.trans (s5.2.trans (s6.2.trans (s7.2.trans s8.2))))))⟩
theorem OLf.round {w wr W1 : World} {base g cap n : Nat} {l : List Lf} (hg : w.grownBy wr (some g)) (h : W1.ownsRow base 90 4 (.slice (some ⟨g, 0, none⟩) n cap) n (lfCells l) ∧ wr.grownBy W1 (some g)) :
    Hid (W1.drew.ownsRow base 90 4 (.slice (some ⟨g, 0, none⟩) n cap) n (lfCells l)) ∧ Hid (w.grownBy W1.drew (some g)) := by
  have q3 := hg.trans h.2
  exact ⟨Lib.hid (World.ownsRow.drew h.1), Lib.hid ⟨q3.os, q3.tape, q3.output, q3.size, q3.block⟩⟩
set_option maxRecDepth 100000 in
set_option maxHeartbeats 4000000 in
theorem reverseLf_any (g cap base : Nat) (l : List Lf) (w : World) (h : OLf w base (.slice (some ⟨g, 0, none⟩) l.length cap) l) (hn : l.length ≤ 100000) :
    Calls Try.prog 94 #[.slice (some ⟨g, 0, none⟩) l.length cap] w (fun e w' => e = .returned (.tuple #[]) ∧ OLf w' base (.slice (some ⟨g, 0, none⟩) l.length cap) l.reverse ∧ w.grownBy w' (some g)) := by
  have HO0 : Hid (w.ownsRow base 90 4 (.slice (some ⟨g, 0, none⟩) l.length cap) l.length (lfCells (revK l 0))) := Lib.hid (by rw [revK_zero]; exact h)
  clear h
  have HG0 := Lib.hid (World.grownBy.refl w (some g))
  have mixed : Try.prog.follows .mixedOrders = true := by kernel_rfl
  go_enter Try.func94, Try.ntmps94
  go_wp2
  go_loopw [2, 3] (fun v2 v3 wr => ∃ (k : Nat) (z : Int), k ≤ l.length ∧ v2 = .int .i64 (k : Int) ∧ v3 = .int .i64 z ∧ z = (l.length : Int) - 1 - (k : Int) ∧ Hid (wr.ownsRow base 90 4 (.slice (some ⟨g, 0, none⟩) l.length cap) l.length (lfCells (revK l k))) ∧ Hid (w.grownBy wr (some g))) (fun v2 _ _ => l.length - (intOf v2).toNat)
  case atStart => exact ⟨0, _, Nat.zero_le _, rfl, rfl, by omega, HO0, HG0⟩
  case round =>
    obtain ⟨k, z, hk, rfl, rfl, hz, HO, HG⟩ := hrel
    clear HO0 HG0
    by_cases hlt : (k : Int) < z
    case pos =>
      obtain ⟨j, rfl⟩ : ∃ j : Nat, z = (j : Int) := ⟨z.toNat, by omega⟩
      have hjl : j = l.length - 1 - k := by omega
      have hkj : k < l.length - 1 - k := by omega
      have hj2 : j < l.length := by omega
      have hk2 : k < l.length := by omega
      have ik : (k : Int) < (l.length : Int) := by omega
      have ij : (j : Int) < (l.length : Int) := by omega
      have c0 := lfCells_at (revK l k) k (by rw [revK_len]; omega)
      have d0 := lfCells_at (revK l k) j (by rw [revK_len]; omega)
      rw [← World.ownsRow.cellAt HO.out _ (by omega), ← World.ownsRow.cellAt HO.out _ (by omega), ← World.ownsRow.cellAt HO.out _ (by omega), ← World.ownsRow.cellAt HO.out _ (by omega)] at c0 d0
      have hkk := revK_k hkj
      rw [← hjl] at hkk
      rw [hkk.1] at c0
      rw [hkk.2] at d0
      have HN := Lib.hid (revK_next hkj)
      rw [← hjl] at HN
      obtain ⟨c0, c1, c2, c3⟩ := c0
      obtain ⟨d0, d1, d2, d3⟩ := d0
      have HLN := Lib.hid (revK_len l k)
      have F := World.ownsRow.frozenAt HO.out
      have hgl : g < wr.heap.size := (HO.out.lt g rfl).2
      have HJ := Lib.hid hjl
      clear hkk hjl hkj hz
      have HS : Hid (∀ w', w' = _ → _) := Lib.hid (fun w' => OLf.swap (w := wr) (w' := w') (i := k) (j := j) (x := l.getD j Lf.zero) (y := l.getD k Lf.zero) HO.out HLN.out hk2 hj2)
      rw [← HN.out] at HS
      generalize l.getD k Lf.zero = x at *
      generalize l.getD j Lf.zero = y at *
      generalize hR1 : revK l (k + 1) = R1 at *
      generalize revK l k = R0 at *
      have HR1 := Lib.hid hR1
      clear hR1
      go_wp2_with fail
      go_region_o
      go_wp2
      go_roundw
      case rel =>
        obtain ⟨q1, q2⟩ := OLf.round HG.out (HS.out _ rfl)
        refine ⟨k + 1, _, by omega, by go_num, rfl, by have := HJ.out; omega, ?_, q2⟩
        rw [HR1.out]
        exact q1
      case measure => simp [intOf]; omega
    case neg =>
      have HE := Lib.hid (revK_end (l := l) (k := k) (by omega))
      go_wp2
      go_end0
      refine ⟨rfl, ?_, HG.out⟩
      have := HO.out
      rw [HE.out] at this
      simpa [OLf] using this
theorem reverseLf_nil (w : World) : Calls Try.prog 94 #[.slice none 0 0] w (fun e w' => e = .returned (.tuple #[]) ∧ w = w') := by
  go_enter Try.func94, Try.ntmps94
  go_wp2
  go_loopw [2, 3] (fun v2 v3 wr => v2 = .int .i64 0 ∧ v3 = .int .i64 (-1) ∧ w = wr) (fun _ _ _ => 0)
  case atStart => exact ⟨rfl, rfl, rfl⟩
  case round =>
    obtain ⟨rfl, rfl, rfl⟩ := hrel
    go_wp2
    go_end0
    exact ⟨rfl, rfl⟩
theorem reverseLf_own (base : Nat) (v : Value) (l : List Lf) (w : World) (h : OLf w base v l) (hn : l.length ≤ 100000) :
    Calls Try.prog 94 #[v] w (fun e w' => e = .returned (.tuple #[]) ∧ OLf w' base v l.reverse ∧ w.grownBy w' v.ownBlock) := by
  have h' := h
  rcases h.2 with ⟨rfl, h2⟩ | ⟨g, cap, cur, rfl, _⟩
  · have : l = [] := List.eq_nil_of_length_eq_zero h2
    subst this
    exact (reverseLf_nil w).mono fun e w' ⟨he, hw⟩ => ⟨he, by subst hw; exact h', by subst hw; exact World.grownBy.refl _ _⟩
  · exact reverseLf_any g cap base l w h' hn
/-- The list of which k leaves are turned. -/
def flipK (l : List Lf) (b : Bool) (k : Nat) : List Lf := (List.range l.length).map fun p => if p < k then (l.getD p Lf.zero).flip b else l.getD p Lf.zero
theorem flipK_len (l : List Lf) (b : Bool) (k : Nat) : (flipK l b k).length = l.length := by unfold flipK; simp
theorem flipK_at (l : List Lf) (b : Bool) (k p : Nat) (hp : p < l.length) : (flipK l b k)[p]? = some (if p < k then (l.getD p Lf.zero).flip b else l.getD p Lf.zero) := by
  unfold flipK
  rw [List.getElem?_map, List.getElem?_range hp]; rfl
theorem flipK_zero (l : List Lf) (b : Bool) : flipK l b 0 = l := by
  apply List.ext_getElem?
  intro p
  by_cases hp : p < l.length
  · rw [flipK_at l b 0 p hp, if_neg (by omega), lget hp]
  · rw [List.getElem?_eq_none (by rw [flipK_len]; omega), List.getElem?_eq_none (by omega)]
theorem flipK_next {l : List Lf} {b : Bool} {k : Nat} (_h : k < l.length) : flipK l b (k + 1) = (flipK l b k).set k ((l.getD k Lf.zero).flip b) := by
  apply List.ext_getElem?
  intro p
  by_cases hp : p < l.length
  · rw [flipK_at l b (k + 1) p hp, List.getElem?_set]
    by_cases h2 : k = p
    · subst h2
      rw [if_pos rfl, if_pos (c := k < (flipK l b k).length) (by rw [flipK_len]; omega), if_pos (by omega)]
    · rw [if_neg h2, flipK_at l b k p hp]
      by_cases h3 : p < k
      · rw [if_pos h3, if_pos (by omega)]
      · rw [if_neg h3, if_neg (by omega)]
  · rw [List.getElem?_eq_none (by rw [flipK_len]; omega), List.getElem?_eq_none (by rw [List.length_set, flipK_len]; omega)]
theorem flipK_k {l : List Lf} {b : Bool} {k : Nat} (h : k < l.length) : (flipK l b k).getD k Lf.zero = l.getD k Lf.zero := by
  rw [List.getD_eq_getElem?_getD, flipK_at l b k k h, if_neg (by omega)]; rfl
theorem flipK_end (l : List Lf) (b : Bool) : flipK l b l.length = l.map (·.flip b) := by
  apply List.ext_getElem?
  intro p
  by_cases hp : p < l.length
  · rw [flipK_at l b _ p hp, if_pos hp, List.getElem?_map, lget hp]; rfl
  · rw [List.getElem?_eq_none (by rw [flipK_len]; omega), List.getElem?_eq_none (by simp; omega)]
theorem lfCells_over : ∀ (l : List Lf) (k : Nat), k < l.length → lfCells (l.set k ((l.getD k Lf.zero).flip false)) = (lfCells l).set (k * 4 + 2) (.int .i64 (1 - (l.getD k Lf.zero).o))
  | _ :: _, 0, _ => rfl
  | y :: l, k + 1, h => by
    have h0 := lfCells_over l k (by simpa using h)
    have e : (y :: l).getD (k + 1) Lf.zero = l.getD k Lf.zero := rfl
    rw [show (k + 1) * 4 + 2 = k * 4 + 2 + 4 by omega, e, List.set_cons_succ, lfCells, h0]
    rfl
theorem lfCells_both : ∀ (l : List Lf) (k : Nat), k < l.length → lfCells (l.set k ((l.getD k Lf.zero).flip true)) = ((lfCells l).set (k * 4 + 2) (.int .i64 (1 - (l.getD k Lf.zero).o))).set (k * 4 + 3) (.int .i64 (1 - (l.getD k Lf.zero).u))
  | y :: l, 0, _ => rfl
  | y :: l, k + 1, h => by
    have h0 := lfCells_both l k (by simpa using h)
    have e : (y :: l).getD (k + 1) Lf.zero = l.getD k Lf.zero := rfl
    rw [show (k + 1) * 4 + 2 = k * 4 + 2 + 4 by omega, show (k + 1) * 4 + 3 = k * 4 + 3 + 4 by omega, e, List.set_cons_succ, lfCells, h0]
    rfl
/-- The k-th leaf is turned over, in a slice of one's own. -/
theorem OLf.over {w0 w : World} {base g cap n k : Nat} {l : List Lf} {x : Lf} (h : w.ownsRow base 90 4 (.slice (some ⟨g, 0, none⟩) n cap) n (lfCells (flipK l false k))) (hg : w0.grownBy w (some g)) (hk : k < l.length) (hx : l.getD k Lf.zero = x) :
    Hid ((w.setCell ⟨g, k * 4 + 2, none⟩ (.int .i64 (1 - x.o))).ownsRow base 90 4 (.slice (some ⟨g, 0, none⟩) n cap) n (lfCells (flipK l false (k + 1)))) ∧ Hid (w0.grownBy (w.setCell ⟨g, k * 4 + 2, none⟩ (.int .i64 (1 - x.o))) (some g)) := by
  have e := lfCells_over (flipK l false k) k (by rw [flipK_len]; exact hk)
  rw [flipK_k hk, hx] at e
  rw [flipK_next hk, hx, e]
  have s1 := World.ownsRow.stored h (k * 4 + 2) (.int .i64 (1 - x.o))
  exact ⟨Lib.hid s1.1, Lib.hid (hg.trans s1.2)⟩
theorem OLf.both {w0 w : World} {base g cap n k : Nat} {l : List Lf} {x : Lf} (h : w.ownsRow base 90 4 (.slice (some ⟨g, 0, none⟩) n cap) n (lfCells (flipK l true k))) (hg : w0.grownBy w (some g)) (hk : k < l.length) (hx : l.getD k Lf.zero = x) :
    Hid (((w.setCell ⟨g, k * 4 + 2, none⟩ (.int .i64 (1 - x.o))).setCell ⟨g, k * 4 + 3, none⟩ (.int .i64 (1 - x.u))).ownsRow base 90 4 (.slice (some ⟨g, 0, none⟩) n cap) n (lfCells (flipK l true (k + 1)))) ∧ Hid (w0.grownBy ((w.setCell ⟨g, k * 4 + 2, none⟩ (.int .i64 (1 - x.o))).setCell ⟨g, k * 4 + 3, none⟩ (.int .i64 (1 - x.u))) (some g)) := by
  have e := lfCells_both (flipK l true k) k (by rw [flipK_len]; exact hk)
  rw [flipK_k hk, hx] at e
  rw [flipK_next hk, hx, e]
  have s1 := World.ownsRow.stored h (k * 4 + 2) (.int .i64 (1 - x.o))
  have s2 := World.ownsRow.stored s1.1 (k * 4 + 3) (.int .i64 (1 - x.u))
  exact ⟨Lib.hid s2.1, Lib.hid (hg.trans (s1.2.trans s2.2))⟩
/-- Leaves whose marks are 0 or 1. -/
def BitL (l : List Lf) : Prop := ∀ x ∈ l, (x.o = 0 ∨ x.o = 1) ∧ (x.u = 0 ∨ x.u = 1)
set_option maxRecDepth 100000 in
set_option maxHeartbeats 4000000 in
theorem turned_any (A : Option Addr) (c : Nat) (l : List Lf) (b : Bool) (w : World) (h : RLf w A l) (hn : l.length ≤ 100000) (hb : BitL l) :
    Calls Try.prog 85 #[.slice A l.length c, .bool b] w (RetLf (turnedP l b) w) := by
  have HR := Lib.hid h; have HBT := Lib.hid hb
  clear h hb
  have CC := Lib.hid (cloneLf_any A c l w HR.out hn)
  have hbig : l.length ≤ 9223372036854775807 := by omega
  go_enter Try.func85, Try.ntmps85
  go_wp2_with (first | (go_at_call 88; refine Calls.mono (CC.out) ?_; rintro e w1 ⟨v, rfl, ho, hx⟩; have HO := Lib.hid ho; have HX := Lib.hid hx; clear ho hx))
  go_wp2_with (first | (go_at_call 94; refine Calls.mono (reverseLf_own _ _ l _ HO.out hn) ?_; rintro e w2 ⟨rfl, ho, hg⟩; have HX2 := Lib.hid (own_grown HO.out hg HX.out (Nat.le_refl _)); have HO2 := Lib.hid ho; clear ho hg; obtain ⟨A9, c9, rfl, _⟩ := own_form (e := 90) (size := 4) HO2.out (by rw [List.length_reverse]; omega); rw [List.length_reverse] at *))
  have hrl : l.reverse.length = l.length := List.length_reverse
  have HL0 : Hid (w2.ownsRow w.heap.size 90 4 (.slice A9 l.length c9) l.length (lfCells (flipK l.reverse b 0))) := Lib.hid (by rw [flipK_zero]; have := HO2.out; rw [OLf, hrl] at this; exact this)
  have HRL := Lib.hid hrl
  clear hrl HO HO2 HX
  have HX0 := HX2
  clear HX2
  go_wp2
  have HG0 := Lib.hid (World.grownBy.refl w2 (Value.slice A9 l.length c9).ownBlock)
  go_loopw [13, 6] (fun v13 _ wr => ∃ k : Nat, k ≤ l.length ∧ v13 = .int .i64 (k : Int) ∧ Hid (wr.ownsRow w.heap.size 90 4 (.slice A9 l.length c9) l.length (lfCells (flipK l.reverse b k))) ∧ Hid (w2.grownBy wr (Value.slice A9 l.length c9).ownBlock)) (fun v13 _ _ => l.length - (intOf v13).toNat)
  case atStart => exact ⟨0, Nat.zero_le _, rfl, HL0, HG0⟩
  case round =>
    obtain ⟨k, hk, rfl, HO, HG⟩ := hrel
    clear HL0 HG0
    by_cases hlt : k < l.length
    case pos =>
      obtain ⟨g, cap, hv, hbg, hgl⟩ := HO.out.form (by omega)
      obtain ⟨rfl, he1, rfl⟩ := Value.slice.inj hv
      clear he1
      have ik : (k : Int) < (l.length : Int) := by omega
      have hmem : l.reverse.getD k Lf.zero ∈ l := by
        have := getD_memL (l := l.reverse) (i := k) (by rw [HRL.out]; exact hlt)
        exact List.mem_reverse.1 this
      obtain ⟨b1, b2⟩ := HBT.out _ hmem
      have c0 := lfCells_at (flipK l.reverse b k) k (by rw [flipK_len, HRL.out]; exact hlt)
      rw [← World.ownsRow.cellAt HO.out _ (by omega), ← World.ownsRow.cellAt HO.out _ (by omega), ← World.ownsRow.cellAt HO.out _ (by omega), ← World.ownsRow.cellAt HO.out _ (by omega), flipK_k (by rw [HRL.out]; exact hlt)] at c0
      obtain ⟨_, _, c2, c3⟩ := c0
      have F := World.ownsRow.frozenAt HO.out
      have HOV : b = false → ∀ x, l.reverse.getD k Lf.zero = x → _ := fun hb x hx => OLf.over (w := wr) (w0 := w2) (base := w.heap.size) (g := g) (cap := c9) (n := l.length) (x := x) (by rw [← hb]; exact HO.out) HG.out (by rw [HRL.out]; exact hlt) hx
      have HBO : b = true → ∀ x, l.reverse.getD k Lf.zero = x → _ := fun hb x hx => OLf.both (w := wr) (w0 := w2) (base := w.heap.size) (g := g) (cap := c9) (n := l.length) (x := x) (by rw [← hb]; exact HO.out) HG.out (by rw [HRL.out]; exact hlt) hx
      clear hmem hv hbg
      obtain ⟨x, hx⟩ : ∃ x, l.reverse.getD k Lf.zero = x := ⟨_, rfl⟩
      have HOV := Lib.hid fun hb => HOV hb x hx
      have HBO := Lib.hid fun hb => HBO hb x hx
      rw [hx] at c2 c3 b1 b2
      clear hx
      have w2' : IntKind.i64.wrap (1 - x.o) = 1 - x.o := IntWalk.i64_in _ (by omega)
      have w3' : IntKind.i64.wrap (1 - x.u) = 1 - x.u := IntWalk.i64_in _ (by omega)
      obtain ⟨xc, xr, xo, xu⟩ := x
      simp only at c2 c3 b1 b2 w2' w3'
      have HB1 := Lib.hid b1; have HB2 := Lib.hid b2
      clear b1 b2
      cases b
      · obtain ⟨q1, q2⟩ := HOV.out rfl
        clear HOV HBO
        go_wp2
        go_roundw
        case rel => exact ⟨k + 1, by omega, by go_num, q1, q2⟩
        case measure => simp [intOf]; omega
      · obtain ⟨q1, q2⟩ := HBO.out rfl
        clear HOV HBO
        go_wp2
        go_roundw
        case rel => exact ⟨k + 1, by omega, by go_num, q1, q2⟩
        case measure => simp [intOf]; omega
    case neg =>
      obtain rfl : k = l.length := by omega
      have HE := Lib.hid (flipK_end l.reverse b)
      rw [HRL.out] at HE
      go_wp2
      go_ret
      refine ⟨_, rfl, ?_, HX0.out.grown HG.out fun j hj => (HO.out.lt j hj).1⟩
      have := HO.out
      rw [HE.out] at this
      have hl : (turnedP l b).length = l.length := by unfold turnedP; simp
      unfold OLf
      rw [hl]
      exact this
end Go.Proofs.Ytniiahddpdiocaa
