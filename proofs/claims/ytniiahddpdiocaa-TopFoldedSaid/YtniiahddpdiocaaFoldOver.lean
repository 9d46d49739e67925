/-
  Walks: over and round.
-/
import Derived.Test.YtniiahddpdiocaaFoldFlat
namespace Go.Proofs.Ytniiahddpdiocaa
open Go.RowKit

/-- A pile that the walks can take. -/
structure OkP (p : Pl) : Prop where
  c8 : p.C ≤ 8
  r8 : p.R ≤ 8
  len : p.at_.length = p.R * p.C
  sl : ∀ c r, c < p.C → r < p.R → (p.st c r).length ≤ 50000
  bit : ∀ c r, BitL (p.st c r)
theorem GoodP.okp {C0 R0 : Nat} {p : Pl} (h : GoodP C0 R0 p) (hl : R0 * C0 ≤ 50000) : OkP p :=
  ⟨h.c8, h.r8, h.len, fun _ _ hc hr => Nat.le_trans (h.st_len hc hr) hl, fun c r x hx => (h.ok c r x hx).2.2.2.2⟩
theorem turnedP_len (l : List Lf) (b : Bool) : (turnedP l b).length = l.length := by unfold turnedP; simp
/-- The pile's block that a closure holds. -/
abbrev PB (W : World) (pb : Nat) (p : Pl) (A : Option Addr) (n d : Nat) : Prop := Blk W pb 123 #[.int .i64 (p.C : Int), .int .i64 (p.R : Int), .slice A n d]
set_option maxRecDepth 100000 in
set_option maxHeartbeats 4000000 in
theorem over1_any (p : Pl) (A : Option Addr) (d : Nat) (rows : List SLf) (pb c r : Nat) (W : World) (hb : PB W pb p A rows.length d) (h : PR W p A rows) (ho : OkP p) (hc : c < p.C) (hr : r < p.R) :
    Calls Try.prog 84 #[.int .i64 (c : Int), .int .i64 (r : Int), .pointer (some ⟨pb, 0, none⟩)] W (RetLf (turnedP (p.st (p.C - 1 - c) r) false) W) := by
  have hc8 := ho.c8
  obtain ⟨m, hm⟩ : ∃ m, m = p.C - 1 - c := ⟨_, rfl⟩
  have w1 : IntKind.i64.wrap ((p.C : Int) - 1) = (p.C : Int) - 1 := IntWalk.i64_in _ (by omega)
  have w2 : IntKind.i64.wrap ((p.C : Int) - 1 - (c : Int)) = (m : Int) := by rw [IntWalk.i64_in _ (by omega)]; omega
  have CS := Lib.hid fun W h => stack_any p A d rows m r W h ho.len ho.c8 ho.r8 (by omega) hr
  have HSL := Lib.hid (ho.sl m r (by omega) hr)
  have HBT := Lib.hid (ho.bit m r)
  rw [← hm]
  have HPR := Lib.hid h
  have HBL := Lib.hid hb
  obtain ⟨k0, k1, k2, kl⟩ := hb.c3
  unfold plV at CS
  clear h hb ho hm hc hr
  generalize p.st m r = l at *
  go_enter Try.func84, Try.ntmps84
  go_wp2_with (first | (go_at_call 86; refine Calls.mono (CS.out _ HPR.out) ?_; rintro e w1 ⟨⟨sA, sc, sl⟩, rfl, hs, hlf, hx⟩; simp only at hs; subst hs; simp only [SLf.val]; have HLF := Lib.hid hlf; have HX := Lib.hid hx; clear hlf hx) | (go_at_call 85; refine Calls.mono (turned_any _ _ sl false _ HLF.out (by have := HSL.out; omega) HBT.out) ?_; rintro e w2 ⟨v, rfl, ho, hx⟩; have HO := Lib.hid (ho.mono HX.out.size); have HX2 := Lib.hid (HX.out.trans hx); clear ho hx))
  go_ret
  exact ⟨_, rfl, HO.out, HX2.out⟩
/-- The worlds with the pile's block and the result's own cells. -/
abbrev W2 (w : World) (p : Pl) (A : Option Addr) (n d : Nat) : World := (w.alloc (.cells #[.int .i64 (p.C : Int), .int .i64 (p.R : Int), .slice A n d] 123)).alloc (.cells #[.int .i64 0, .int .i64 0, .slice none 0 0] 123)
theorem W2.facts (w : World) (p : Pl) (A : Option Addr) (n d : Nat) : PB (W2 w p A n d) w.heap.size p A n d ∧ Blk (W2 w p A n d) (w.heap.size + 1) 123 #[.int .i64 0, .int .i64 0, .slice none 0 0] ∧ Ext w (W2 w p A n d) ∧ (W2 w p A n d).heap.size = w.heap.size + 1 + 1 :=
  ⟨(Blk.new _ _ _).alloc _, Blk.new1 _ _ _ _, (by repeat (first | exact Ext.refl _ | assumption | refine Ext.alloc ?_ _ | refine Ext.drew ?_ | refine Ext.drewN ?_ _ | (refine Ext.setCell ?_ (by simp <;> omega) _) | refine Ext.trans ?_ (by assumption))), by simp [W2]⟩
set_option maxRecDepth 100000 in
set_option maxHeartbeats 4000000 in
theorem over_any (p : Pl) (A : Option Addr) (d : Nat) (rows : List SLf) (w : World) (h : PR w p A rows) (ho : OkP p) :
    Calls Try.prog 72 #[plV p A rows.length d] w (RetPl (overP p) w) := by
  obtain ⟨f1, f2, f3, f4⟩ := W2.facts w p A rows.length d
  have HB := Lib.hid f2; have HX := Lib.hid f3; have HZ := Lib.hid f4
  have CM := Lib.hid (moved_any 84 #[.pointer (some ⟨w.heap.size, 0, none⟩)] (fun _ _ => by kernel_rfl) p.C p.R (fun c r => turnedP (p.st (p.C - 1 - c) r) false) (W2 w p A rows.length d) ho.c8 ho.r8
    (fun c r hc hr => by rw [turnedP_len]; have := ho.sl (p.C - 1 - c) r (by omega) hr; omega)
    (fun W c r hx hc hr => over1_any p A d rows w.heap.size c r W (f1.ext hx) (h.ext (f3.trans hx)) ho hc hr))
  clear f1 f2 f3 f4 h ho
  unfold plV
  go_enter Try.func72, Try.ntmps72
  go_wp2_with (first | (go_at_call 83; refine Calls.mono CM.out ?_; rintro e w1 ⟨B, e9, rows9, rfl, hop, hx⟩; have HOP := Lib.hid hop; have HX1 := Lib.hid hx; simp only [plV, mkP]; obtain ⟨r0, r1, r2, rl⟩ := (HB.out.ext HX1.out).c3; have F := (HB.out.ext HX1.out).frozen; clear hop hx))
  have h9 := (HOP.out.mono (base' := w.heap.size + 1 + 1) (by have := HZ.out; omega)).far3 (p0 := w.heap.size + 1) (Nat.lt_succ_self _)
  refine bodyPost_ret (v := plV (overP p) B rows9.length e9) (by simp [results, Try.results72, go_sem, plV, overP, mkP, r0, r1, r2]) rfl ⟨B, e9, rows9, rfl, (h9 _ _ _).mono (by omega), setCell3 (HX.out.trans HX1.out) (Nat.le_succ _) _ _ _⟩
/-- The list of which k leaves are turned about. -/
def abK (l : List Lf) (k : Nat) : List Lf := (List.range l.length).map fun p => if p < k then (l.getD p Lf.zero).about else l.getD p Lf.zero
theorem abK_len (l : List Lf) (k : Nat) : (abK l k).length = l.length := by unfold abK; simp
theorem abK_at (l : List Lf) (k p : Nat) (hp : p < l.length) : (abK l k)[p]? = some (if p < k then (l.getD p Lf.zero).about else l.getD p Lf.zero) := by
  unfold abK
  rw [List.getElem?_map, List.getElem?_range hp]; rfl
theorem abK_zero (l : List Lf) : abK l 0 = l := by
  apply List.ext_getElem?
  intro p
  by_cases hp : p < l.length
  · rw [abK_at l 0 p hp, if_neg (by omega), lget hp]
  · rw [List.getElem?_eq_none (by rw [abK_len]; omega), List.getElem?_eq_none (by omega)]
theorem abK_next {l : List Lf} {k : Nat} : abK l (k + 1) = (abK l k).set k ((l.getD k Lf.zero).about) := by
  apply List.ext_getElem?
  intro p
  by_cases hp : p < l.length
  · rw [abK_at l (k + 1) p hp, List.getElem?_set]
    by_cases h2 : k = p
    · subst h2
      rw [if_pos rfl, if_pos (c := k < (abK l k).length) (by rw [abK_len]; omega), if_pos (by omega)]
    · rw [if_neg h2, abK_at l k p hp]
      by_cases h3 : p < k
      · rw [if_pos h3, if_pos (by omega)]
      · rw [if_neg h3, if_neg (by omega)]
  · rw [List.getElem?_eq_none (by rw [abK_len]; omega), List.getElem?_eq_none (by rw [List.length_set, abK_len]; omega)]
theorem abK_k {l : List Lf} {k : Nat} (h : k < l.length) : (abK l k).getD k Lf.zero = l.getD k Lf.zero := by
  rw [List.getD_eq_getElem?_getD, abK_at l k k h, if_neg (by omega)]; rfl
theorem abK_end (l : List Lf) : abK l l.length = l.map Lf.about := by
  apply List.ext_getElem?
  intro p
  by_cases hp : p < l.length
  · rw [abK_at l _ p hp, if_pos hp, List.getElem?_map, lget hp]; rfl
  · rw [List.getElem?_eq_none (by rw [abK_len]; omega), List.getElem?_eq_none (by simp; omega)]
theorem lfCells_about : ∀ (l : List Lf) (k : Nat), k < l.length → lfCells (l.set k ((l.getD k Lf.zero).about)) = (lfCells l).set (k * 4 + 3) (.int .i64 (1 - (l.getD k Lf.zero).u))
  | _ :: _, 0, _ => rfl
  | y :: l, k + 1, h => by
    have h0 := lfCells_about l k (by simpa using h)
    have e : (y :: l).getD (k + 1) Lf.zero = l.getD k Lf.zero := rfl
    rw [show (k + 1) * 4 + 3 = k * 4 + 3 + 4 by omega, e, List.set_cons_succ, lfCells, h0]
    rfl
theorem OLf.about {w0 w : World} {base g cap n k : Nat} {l : List Lf} {x : Lf} (h : w.ownsRow base 90 4 (.slice (some ⟨g, 0, none⟩) n cap) n (lfCells (abK l k))) (hg : w0.grownBy w (some g)) (hk : k < l.length) (hx : l.getD k Lf.zero = x) :
    Hid ((w.setCell ⟨g, k * 4 + 3, none⟩ (.int .i64 (1 - x.u))).ownsRow base 90 4 (.slice (some ⟨g, 0, none⟩) n cap) n (lfCells (abK l (k + 1)))) ∧ Hid (w0.grownBy (w.setCell ⟨g, k * 4 + 3, none⟩ (.int .i64 (1 - x.u))) (some g)) := by
  have e := lfCells_about (abK l k) k (by rw [abK_len]; exact hk)
  rw [abK_k hk, hx] at e
  rw [abK_next, hx, e]
  have s1 := World.ownsRow.stored h (k * 4 + 3) (.int .i64 (1 - x.u))
  exact ⟨Lib.hid s1.1, Lib.hid (hg.trans s1.2)⟩
set_option maxRecDepth 100000 in
set_option maxHeartbeats 4000000 in
theorem round1_any (p : Pl) (A : Option Addr) (d : Nat) (rows : List SLf) (pb c r : Nat) (W : World) (hb : PB W pb p A rows.length d) (h : PR W p A rows) (ho : OkP p) (hc : c < p.C) (hr : r < p.R) :
    Calls Try.prog 87 #[.int .i64 (c : Int), .int .i64 (r : Int), .pointer (some ⟨pb, 0, none⟩)] W (RetLf ((p.st (p.C - 1 - c) (p.R - 1 - r)).map Lf.about) W) := by
  have hc8 := ho.c8; have hr8 := ho.r8
  obtain ⟨m, hm⟩ : ∃ m, m = p.C - 1 - c := ⟨_, rfl⟩
  obtain ⟨q, hq⟩ : ∃ q, q = p.R - 1 - r := ⟨_, rfl⟩
  have w1 : IntKind.i64.wrap ((p.C : Int) - 1) = (p.C : Int) - 1 := IntWalk.i64_in _ (by omega)
  have w2 : IntKind.i64.wrap ((p.C : Int) - 1 - (c : Int)) = (m : Int) := by rw [IntWalk.i64_in _ (by omega)]; omega
  have w3 : IntKind.i64.wrap ((p.R : Int) - 1) = (p.R : Int) - 1 := IntWalk.i64_in _ (by omega)
  have w4 : IntKind.i64.wrap ((p.R : Int) - 1 - (r : Int)) = (q : Int) := by rw [IntWalk.i64_in _ (by omega)]; omega
  have CS := Lib.hid fun W h => stack_any p A d rows m q W h ho.len ho.c8 ho.r8 (by omega) (by omega)
  have HSL := Lib.hid (ho.sl m q (by omega) (by omega))
  have HBT := Lib.hid (ho.bit m q)
  rw [← hm, ← hq]
  have HPR := Lib.hid h
  have HBL := Lib.hid hb
  obtain ⟨k0, k1, k2, kl⟩ := hb.c3
  unfold plV at CS
  clear h hb ho hm hq hc hr hc8 hr8
  generalize p.st m q = l at *
  have hbig : l.length ≤ 9223372036854775807 := by have := HSL.out; omega
  go_enter Try.func87, Try.ntmps87
  go_wp2_with (first | (go_at_call 86; refine Calls.mono (CS.out _ HPR.out) ?_; rintro e w1 ⟨⟨sA, sc, sl⟩, rfl, hs, hlf, hx⟩; simp only at hs; subst hs; simp only [SLf.val]; have HLF := Lib.hid hlf; have HX := Lib.hid hx; clear hlf hx) | (go_at_call 88; refine Calls.mono (cloneLf_any _ _ sl _ HLF.out (by have := HSL.out; omega)) ?_; rintro e w2 ⟨v, rfl, ho, hx⟩; obtain ⟨A9, c9, rfl, _⟩ := ho.form (by have := HSL.out; omega); have HO := Lib.hid ho; have HX2 := Lib.hid (HX.out.trans hx); clear ho hx))
  have HL0 : Hid (w2.ownsRow W.heap.size 90 4 (.slice A9 sl.length c9) sl.length (lfCells (abK sl 0))) := Lib.hid (by rw [abK_zero]; exact HO.out.mono HX.out.size)
  have HG0 := Lib.hid (World.grownBy.refl w2 (Value.slice A9 sl.length c9).ownBlock)
  clear HO
  go_loopw [23, 7] (fun v23 _ wr => ∃ k : Nat, k ≤ sl.length ∧ v23 = .int .i64 (k : Int) ∧ Hid (wr.ownsRow W.heap.size 90 4 (.slice A9 sl.length c9) sl.length (lfCells (abK sl k))) ∧ Hid (w2.grownBy wr (Value.slice A9 sl.length c9).ownBlock)) (fun v23 _ _ => sl.length - (intOf v23).toNat)
  case atStart => exact ⟨0, Nat.zero_le _, rfl, HL0, HG0⟩
  case round =>
    obtain ⟨k, hk, rfl, HO, HG⟩ := hrel
    clear HL0 HG0
    by_cases hlt : k < sl.length
    case pos =>
      obtain ⟨g, cap, hv, hbg, hgl⟩ := HO.out.form (by omega)
      obtain ⟨rfl, he1, rfl⟩ := Value.slice.inj hv
      clear he1
      have ik : (k : Int) < (sl.length : Int) := by omega
      obtain ⟨b1, b2⟩ := HBT.out _ (getD_memL hlt)
      have c0 := lfCells_at (abK sl k) k (by rw [abK_len]; exact hlt)
      rw [← World.ownsRow.cellAt HO.out _ (by omega), ← World.ownsRow.cellAt HO.out _ (by omega), ← World.ownsRow.cellAt HO.out _ (by omega), ← World.ownsRow.cellAt HO.out _ (by omega), abK_k hlt] at c0
      obtain ⟨_, _, _, c3⟩ := c0
      have F := World.ownsRow.frozenAt HO.out
      have HAB := OLf.about (w := wr) (w0 := w2) (base := W.heap.size) (g := g) (cap := c9) (n := sl.length) HO.out HG.out hlt rfl
      clear hv hbg
      generalize sl.getD k Lf.zero = x at *
      have w2' : IntKind.i64.wrap (1 - x.u) = 1 - x.u := IntWalk.i64_in _ (by omega)
      obtain ⟨xc, xr, xo, xu⟩ := x
      simp only at c3 b1 b2 w2' HAB
      obtain ⟨q1, q2⟩ := HAB
      clear b1 b2
      go_wp2
      go_roundw
      case rel => exact ⟨k + 1, by omega, by go_num, q1, q2⟩
      case measure => simp [intOf]; omega
    case neg =>
      obtain rfl : k = sl.length := by omega
      have HE := Lib.hid (abK_end sl)
      go_wp2
      go_ret
      refine ⟨_, rfl, ?_, HX2.out.grown HG.out fun j hj => (HO.out.lt j hj).1⟩
      have := HO.out
      rw [HE.out] at this
      unfold OLf
      rw [List.length_map]
      exact this
set_option maxRecDepth 100000 in
set_option maxHeartbeats 4000000 in
theorem round_any (p : Pl) (A : Option Addr) (d : Nat) (rows : List SLf) (w : World) (h : PR w p A rows) (ho : OkP p) :
    Calls Try.prog 73 #[plV p A rows.length d] w (RetPl (roundP p) w) := by
  obtain ⟨f1, f2, f3, f4⟩ := W2.facts w p A rows.length d
  have HB := Lib.hid f2; have HX := Lib.hid f3; have HZ := Lib.hid f4
  have CM := Lib.hid (moved_any 87 #[.pointer (some ⟨w.heap.size, 0, none⟩)] (fun _ _ => by kernel_rfl) p.C p.R (fun c r => (p.st (p.C - 1 - c) (p.R - 1 - r)).map Lf.about) (W2 w p A rows.length d) ho.c8 ho.r8
    (fun c r hc hr => by rw [List.length_map]; have := ho.sl (p.C - 1 - c) (p.R - 1 - r) (by omega) (by omega); omega)
    (fun W c r hx hc hr => round1_any p A d rows w.heap.size c r W (f1.ext hx) (h.ext (f3.trans hx)) ho hc hr))
  clear f1 f2 f3 f4 h ho
  unfold plV
  go_enter Try.func73, Try.ntmps73
  go_wp2_with (first | (go_at_call 83; refine Calls.mono CM.out ?_; rintro e w1 ⟨B, e9, rows9, rfl, hop, hx⟩; have HOP := Lib.hid hop; have HX1 := Lib.hid hx; simp only [plV, mkP]; obtain ⟨r0, r1, r2, rl⟩ := (HB.out.ext HX1.out).c3; have F := (HB.out.ext HX1.out).frozen; clear hop hx))
  have h9 := (HOP.out.mono (base' := w.heap.size + 1 + 1) (by have := HZ.out; omega)).far3 (p0 := w.heap.size + 1) (Nat.lt_succ_self _)
  refine bodyPost_ret (v := plV (roundP p) B rows9.length e9) (by simp [results, Try.results73, go_sem, plV, roundP, mkP, r0, r1, r2]) rfl ⟨B, e9, rows9, rfl, (h9 _ _ _).mono (by omega), setCell3 (HX.out.trans HX1.out) (Nat.le_succ _) _ _ _⟩
end Go.Proofs.Ytniiahddpdiocaa
