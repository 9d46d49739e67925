/-
  Walks: chapter 5: the reference's check of breaks.
-/
import Derived.Test.YtpkmapngdkkglaaGreatDoorRCost
import Derived.Test.YtpkmapngdkkglaaGreatDoorLeastLaw
namespace Go.Proofs.YtpkmapngdkkglaaGreatDoor
open Go.RowKit
attribute [local go_sem ↓] Go.wp_at_zero Go.wp_at_succ

/-- The boxes of a galley and of rules. -/
structure BQ (w : World) (cg cq : Array Value) (W : World) : Prop where
  ext : Ext w W
  bg : Blk W w.heap.size 25 cg
  bq : Blk W (w.heap.size + 1) 27 cq
section
variable {w W W' : World} {cg cq ca : Array Value} {a b c d e f x y : Value}
theorem BQ.next (h : BQ w cg cq W) (hx : Ext W W') : BQ w cg cq W' := ⟨h.ext.trans hx, h.bg.ext hx, h.bq.ext hx⟩
theorem BQ.at (h : BQ w #[a, b] #[c, d, e, f] W) : W.cell? ⟨w.heap.size, 0, none⟩ = some a ∧ W.cell? ⟨w.heap.size, 1, none⟩ = some b ∧ w.heap.size < W.heap.size ∧ (W.cell? ⟨w.heap.size + 1, 0, none⟩ = some c ∧ W.cell? ⟨w.heap.size + 1, 1, none⟩ = some d ∧ W.cell? ⟨w.heap.size + 1, 2, none⟩ = some e ∧ W.cell? ⟨w.heap.size + 1, 3, none⟩ = some f) ∧ w.heap.size + 1 < W.heap.size :=
  ⟨h.bg.cell 0 _ rfl, h.bg.cell 1 _ rfl, h.bg.lt, ⟨h.bq.cell 0 _ rfl, h.bq.cell 1 _ rfl, h.bq.cell 2 _ rfl, h.bq.cell 3 _ rfl⟩, h.bq.lt⟩
end
theorem BQ.start (w : World) (cg cq : Array Value) : BQ w cg cq ((w.alloc (.cells cg 25)).alloc (.cells cq 27)) := ⟨(by repeat first | exact xe0 _ | assumption | refine xea ?_ _ | refine xed ?_ | refine xet ?_ (by assumption)), (Blk.new w _ _).alloc _, Blk.new1 w _ _ _⟩
set_option maxRecDepth 100000 in
set_option maxHeartbeats 8000000 in
theorem rBreaks_any (g : GT) (p : GA) (r : QT) (A : Option Addr) (c : Nat) (l : List Int) (w : World) (hg : GR w p g) (hl : RI w A l.length l) (hr : RightG g) (hq : chkQ r = 0) :
    Calls Tryz.prog 40 #[g.val p, r.val, .slice A l.length c] w (Ret (pairGV (cbR (costR g r) g.items.length l)) w) := by
  have hbig := hl.big
  have hn := hr.many
  have hs := cost_small hr hq
  have cC := fun W h a b hab hb => rCost_any g p r a b W h hab hb hr hq
  unfold costV at cC
  have HR : Hid (cbR (costR g r) g.items.length l = if firstE (cbE (costR g r) g.items.length l) l.length ≠ 0 then (0, firstE (cbE (costR g r) g.items.length l) l.length) else if l.length = 0 ∨ cbAt l l.length ≠ g.items.length then (0, 14) else (brkSum (costR g r) 0 l l.length, 0)) := Lib.hid rfl
  have HH : Hid (∀ k, (∀ j, j < k → cbE (costR g r) g.items.length l j = 0) → k < l.length → cbE (costR g r) g.items.length l k ≠ 0 → cbR (costR g r) g.items.length l = (0, cbE (costR g r) g.items.length l k)) := Lib.hid fun k h0 hk hb => by
    rw [HR.out, firstE_hit (g := cbE (costR g r) g.items.length l) h0 hb hk, if_pos hb]
  have HZ : Hid ((∀ j, j < l.length → cbE (costR g r) g.items.length l j = 0) → cbR (costR g r) g.items.length l = if l.length = 0 ∨ cbAt l l.length ≠ g.items.length then (0, 14) else (brkSum (costR g r) 0 l l.length, 0)) := Lib.hid fun h => by
    rw [HR.out, firstE_none h, if_neg (by simp)]
  have HBD := Lib.hid (fun k h => cb_bd hs (l := l) k h)
  have HG := Lib.hid hg; have HL := Lib.hid hl
  have HSM := Lib.hid hs
  clear HR hg hl hs hr hq
  unfold pairGV
  generalize cbR (costR g r) g.items.length l = V at *
  simp only [GT.val, QT.val] at *
  have CC := Lib.hid cC; clear cC
  go_enter Tryz.func40, Tryz.ntmps40
  have HS0 := Lib.hid (BQ.start w #[.slice p.A g.items.length p.c, .slice p.B g.notes.length p.d] #[.int .i64 r.height, .int .i64 r.gap, .int .i64 r.widow, .int .i64 r.orphan])
  go_wp2
  go_loopw [8, 9, 10] (fun s b i wr => ∃ k : Nat, k ≤ l.length ∧ i = .int .i64 (k : Int) ∧ b = .int .i64 ((cbAt l k : Nat) : Int) ∧ s = .int .i64 (brkSum (costR g r) 0 l k) ∧ Hid (∀ j, j < k → cbE (costR g r) g.items.length l j = 0) ∧ Hid (BQ w #[.slice p.A g.items.length p.c, .slice p.B g.notes.length p.d] #[.int .i64 r.height, .int .i64 r.gap, .int .i64 r.widow, .int .i64 r.orphan] wr)) (fun _ _ i _ => l.length - (intOf i).toNat)
  case atStart => exact ⟨0, Nat.zero_le _, rfl, rfl, rfl, Lib.hid (fun j hj => absurd hj (by omega)), HS0⟩
  case round =>
    obtain ⟨k, hk, rfl, rfl, rfl, H0, HS⟩ := hrel
    clear HS0
    obtain ⟨hb1, hb2, hb3, hb4⟩ := HBD.out k H0.out
    obtain ⟨g0, g1, gl0, ⟨q0, q1, q2, q3⟩, gl⟩ := HS.out.at
    by_cases hlt : k < l.length
    case neg =>
      obtain rfl : k = l.length := by omega
      have HV := Lib.hid (HZ.out H0.out)
      by_cases hl0 : l.length = 0
      case pos =>
        have HV2 : Hid (V = (0, 14)) := Lib.hid (by rw [HV.out, if_pos (.inl hl0)])
        have i1 : ((l.length : Int) == 0) = true := by rw [beq_iff_eq]; omega
        generalize cbAt l l.length = b0 at *
        clear hl0 HV HZ HH HBD
        go_wp2
        go_ret2
        exact Ret.mk' (by rw [HV2.out]; rfl) (HS.out.ext.trans (by repeat first | exact xe0 _ | assumption | refine xea ?_ _ | refine xed ?_ | refine xet ?_ (by assumption)))
      case neg =>
      have i1 : ((l.length : Int) == 0) = false := by rw [beq_eq_false_iff_ne]; omega
      by_cases hbn : cbAt l l.length = g.items.length
      case pos =>
        have HV2 : Hid (V = (brkSum (costR g r) 0 l l.length, 0)) := Lib.hid (by rw [HV.out, if_neg (by rintro (h | h); exact hl0 h; exact h hbn)])
        have i2 : ((cbAt l l.length : Nat) : Int) = (g.items.length : Int) := by omega
        have i3 : (((cbAt l l.length : Nat) : Int) != (g.items.length : Int)) = false := by rw [i2]; simp
        generalize cbAt l l.length = b0 at *
        clear hl0 hbn HV HZ HH HBD i2
        go_wp2
        go_ret2
        exact Ret.mk' (by rw [HV2.out]; rfl) (HS.out.ext.trans (by repeat first | exact xe0 _ | assumption | refine xea ?_ _ | refine xed ?_ | refine xet ?_ (by assumption)))
      case neg =>
        have HV2 : Hid (V = (0, 14)) := Lib.hid (by rw [HV.out, if_pos (.inr hbn)])
        have i3 : (((cbAt l l.length : Nat) : Int) != (g.items.length : Int)) = true := by rw [bne_iff_ne]; omega
        generalize cbAt l l.length = b0 at *
        clear hl0 hbn HV HZ HH HBD
        go_wp2
        go_ret2
        exact Ret.mk' (by rw [HV2.out]; rfl) (HS.out.ext.trans (by repeat first | exact xe0 _ | assumption | refine xea ?_ _ | refine xed ?_ | refine xet ?_ (by assumption)))
    case pos =>
      have hk1 : k < g.items.length + 1 := by
        rcases Nat.eq_zero_or_pos k with h | h
        · omega
        · have := hb2 h; omega
      obtain ⟨bb, bo, rfl, hbb, hbc⟩ := (HL.out.ext HS.out.ext).2.2 (by omega)
      have hbk := hbc k hlt
      have HE := Lib.hid (HH.out k H0.out hlt)
      have HE0 : Hid (cbE (costR g r) g.items.length l k = cbErr (costR g r) g.items.length (cbAt l k) (l.getD k 0)) := Lib.hid rfl
      have HSX : Hid (cbAt l (k + 1) = (l.getD k 0).toNat) := Lib.hid (cbAt_succ l k)
      have HSS : Hid (brkSum (costR g r) 0 l (k + 1) = brkSum (costR g r) 0 l k + (costR g r (cbAt l k) (l.getD k 0).toNat).1) := Lib.hid (brkSum_succ l k)
      have HN : Hid (cbE (costR g r) g.items.length l k = 0 → ∀ j, j < k + 1 → cbE (costR g r) g.items.length l j = 0) := Lib.hid fun h j hj => by
        rcases Nat.lt_or_ge j k with h9 | h9
        · exact H0.out j h9
        · obtain rfl : j = k := by omega
          exact h
      rw [HE0.out] at HE HN
      obtain ⟨z, hz⟩ : ∃ z, l.getD k 0 = z := ⟨_, rfl⟩
      rw [hz] at hbk HE HN HSX HSS
      have hki : (k : Int) < (l.length : Int) := by omega
      have HBB := Lib.hid hbb
      have HBC : Hid (wr.cell? ⟨bb, bo + k, none⟩ = some (.int .i64 z)) := Lib.hid hbk
      generalize cbAt l k = b0 at *
      clear hbc hz HE0 hb1 hb2 HZ HH HBD
      by_cases h1 : 0 ≤ z ∧ z ≤ (g.items.length : Int)
      case neg =>
        have hE : cbErr (costR g r) g.items.length b0 z = 2 := by unfold cbErr; rw [if_pos h1]
        have HV : Hid (V = (0, 2)) := Lib.hid (by have := HE.out; rw [hE] at this; exact this (by decide))
        have CW := Lib.hid (fun W => bWithin_no z 0 (g.items.length : Int) W h1)
        clear h1 hE HE HN HSX HSS
        go_upto_region 5 with fail
        refine wp_region_steady (Ext _) [?_, ?_, ?_, ?_, ?_, ?_, ?_, ?_, ?_] (by kernel_rfl) (by kernel_rfl) rfl (Ext.refl _).drew ?_ ?_
        rotate_left 9
        · refine StepsT.cons (fun W hW => ?_) ?_
          · have c0 := (hW.cell (p := ⟨bb, bo + k, none⟩) HBB.out).trans HBC.out; obtain ⟨g0, g1, gl0, ⟨q0, q1, q2, q3⟩, gl⟩ := (HS.out.next hW).at; first | (refine StepT.off rfl hW ?_; rfl) | (refine StepT.go rfl ?_; go_simp; first | (refine ⟨?_, hW⟩; rfl) | (refine Calls.mono (CW.out _) ?_; rintro e w8 ⟨rfl, rfl⟩; refine ⟨?_, hW⟩; rfl))
          simp only [Act.put, List.setIfInBounds_toArray, List.set_cons_zero, List.set_cons_succ]
          refine StepsT.cons (fun W hW => ?_) ?_
          · have c0 := (hW.cell (p := ⟨bb, bo + k, none⟩) HBB.out).trans HBC.out; obtain ⟨g0, g1, gl0, ⟨q0, q1, q2, q3⟩, gl⟩ := (HS.out.next hW).at; first | (refine StepT.off rfl hW ?_; rfl) | (refine StepT.go rfl ?_; go_simp; first | (refine ⟨?_, hW⟩; rfl) | (refine Calls.mono (CW.out _) ?_; rintro e w8 ⟨rfl, rfl⟩; refine ⟨?_, hW⟩; rfl))
          simp only [Act.put, List.setIfInBounds_toArray, List.set_cons_zero, List.set_cons_succ]
          refine StepsT.cons (fun W hW => ?_) ?_
          · have c0 := (hW.cell (p := ⟨bb, bo + k, none⟩) HBB.out).trans HBC.out; obtain ⟨g0, g1, gl0, ⟨q0, q1, q2, q3⟩, gl⟩ := (HS.out.next hW).at; first | (refine StepT.off rfl hW ?_; rfl) | (refine StepT.go rfl ?_; go_simp; first | (refine ⟨?_, hW⟩; rfl) | (refine Calls.mono (CW.out _) ?_; rintro e w8 ⟨rfl, rfl⟩; refine ⟨?_, hW⟩; rfl))
          simp only [Act.put, List.setIfInBounds_toArray, List.set_cons_zero, List.set_cons_succ]
          refine StepsT.cons (fun W hW => ?_) ?_
          · have c0 := (hW.cell (p := ⟨bb, bo + k, none⟩) HBB.out).trans HBC.out; obtain ⟨g0, g1, gl0, ⟨q0, q1, q2, q3⟩, gl⟩ := (HS.out.next hW).at; first | (refine StepT.off rfl hW ?_; rfl) | (refine StepT.go rfl ?_; go_simp; first | (refine ⟨?_, hW⟩; rfl) | (refine Calls.mono (CW.out _) ?_; rintro e w8 ⟨rfl, rfl⟩; refine ⟨?_, hW⟩; rfl))
          simp only [Act.put, List.setIfInBounds_toArray, List.set_cons_zero, List.set_cons_succ]
          refine StepsT.cons (fun W hW => ?_) ?_
          · have c0 := (hW.cell (p := ⟨bb, bo + k, none⟩) HBB.out).trans HBC.out; obtain ⟨g0, g1, gl0, ⟨q0, q1, q2, q3⟩, gl⟩ := (HS.out.next hW).at; first | (refine StepT.off rfl hW ?_; rfl) | (refine StepT.go rfl ?_; go_simp; first | (refine ⟨?_, hW⟩; rfl) | (refine Calls.mono (CW.out _) ?_; rintro e w8 ⟨rfl, rfl⟩; refine ⟨?_, hW⟩; rfl))
          simp only [Act.put, List.setIfInBounds_toArray, List.set_cons_zero, List.set_cons_succ]
          refine StepsT.cons (fun W hW => ?_) ?_
          · have c0 := (hW.cell (p := ⟨bb, bo + k, none⟩) HBB.out).trans HBC.out; obtain ⟨g0, g1, gl0, ⟨q0, q1, q2, q3⟩, gl⟩ := (HS.out.next hW).at; first | (refine StepT.off rfl hW ?_; rfl) | (refine StepT.go rfl ?_; go_simp; first | (refine ⟨?_, hW⟩; rfl) | (refine Calls.mono (CW.out _) ?_; rintro e w8 ⟨rfl, rfl⟩; refine ⟨?_, hW⟩; rfl))
          simp only [Act.put, List.setIfInBounds_toArray, List.set_cons_zero, List.set_cons_succ]
          refine StepsT.cons (fun W hW => ?_) ?_
          · have c0 := (hW.cell (p := ⟨bb, bo + k, none⟩) HBB.out).trans HBC.out; obtain ⟨g0, g1, gl0, ⟨q0, q1, q2, q3⟩, gl⟩ := (HS.out.next hW).at; first | (refine StepT.off rfl hW ?_; rfl) | (refine StepT.go rfl ?_; go_simp; first | (refine ⟨?_, hW⟩; rfl) | (refine Calls.mono (CW.out _) ?_; rintro e w8 ⟨rfl, rfl⟩; refine ⟨?_, hW⟩; rfl))
          simp only [Act.put, List.setIfInBounds_toArray, List.set_cons_zero, List.set_cons_succ]
          refine StepsT.cons (fun W hW => ?_) ?_
          · have c0 := (hW.cell (p := ⟨bb, bo + k, none⟩) HBB.out).trans HBC.out; obtain ⟨g0, g1, gl0, ⟨q0, q1, q2, q3⟩, gl⟩ := (HS.out.next hW).at; first | (refine StepT.off rfl hW ?_; rfl) | (refine StepT.go rfl ?_; go_simp; first | (refine ⟨?_, hW⟩; rfl) | (refine Calls.mono (CW.out _) ?_; rintro e w8 ⟨rfl, rfl⟩; refine ⟨?_, hW⟩; rfl))
          simp only [Act.put, List.setIfInBounds_toArray, List.set_cons_zero, List.set_cons_succ]
          refine StepsT.cons (fun W hW => ?_) ?_
          · have c0 := (hW.cell (p := ⟨bb, bo + k, none⟩) HBB.out).trans HBC.out; obtain ⟨g0, g1, gl0, ⟨q0, q1, q2, q3⟩, gl⟩ := (HS.out.next hW).at; first | (refine StepT.off rfl hW ?_; rfl) | (refine StepT.go rfl ?_; go_simp; first | (refine ⟨?_, hW⟩; rfl) | (refine Calls.mono (CW.out _) ?_; rintro e w8 ⟨rfl, rfl⟩; refine ⟨?_, hW⟩; rfl))
          simp only [Act.put, List.setIfInBounds_toArray, List.set_cons_zero, List.set_cons_succ]
          trivial
        intro W hW
        simp only [putAll, Act.put, List.setIfInBounds_toArray, List.set_cons_zero, List.set_cons_succ]
        go_wp2
        go_ret2
        exact Ret.mk' (by rw [HV.out]; rfl) ((HS.out.next hW).ext.trans (by repeat first | exact xe0 _ | assumption | refine xea ?_ _ | refine xed ?_ | refine xet ?_ (by assumption)))
      case pos =>
      obtain ⟨e0, he0⟩ : ∃ e0 : Nat, z = (e0 : Int) := ⟨z.toNat, by omega⟩
      subst he0
      have CW := Lib.hid (fun W => bWithin_yes (e0 : Int) 0 (g.items.length : Int) W h1)
      have hen : e0 ≤ g.items.length := by omega
      rw [Int.toNat_natCast] at HSX HSS
      go_upto_region 5 with fail
      refine wp_region_steady (Ext _) [?_, ?_, ?_, ?_, ?_, ?_, ?_, ?_, ?_] (by kernel_rfl) (by kernel_rfl) rfl (Ext.refl _).drew ?_ ?_
      rotate_left 9
      · refine StepsT.cons (fun W hW => ?_) ?_
        · have c0 := (hW.cell (p := ⟨bb, bo + k, none⟩) HBB.out).trans HBC.out; obtain ⟨g0, g1, gl0, ⟨q0, q1, q2, q3⟩, gl⟩ := (HS.out.next hW).at; first | (refine StepT.off rfl hW ?_; rfl) | (refine StepT.go rfl ?_; go_simp; first | (refine ⟨?_, hW⟩; rfl) | (refine Calls.mono (CW.out _) ?_; rintro e w8 ⟨rfl, rfl⟩; refine ⟨?_, hW⟩; rfl))
        simp only [Act.put, List.setIfInBounds_toArray, List.set_cons_zero, List.set_cons_succ]
        refine StepsT.cons (fun W hW => ?_) ?_
        · have c0 := (hW.cell (p := ⟨bb, bo + k, none⟩) HBB.out).trans HBC.out; obtain ⟨g0, g1, gl0, ⟨q0, q1, q2, q3⟩, gl⟩ := (HS.out.next hW).at; first | (refine StepT.off rfl hW ?_; rfl) | (refine StepT.go rfl ?_; go_simp; first | (refine ⟨?_, hW⟩; rfl) | (refine Calls.mono (CW.out _) ?_; rintro e w8 ⟨rfl, rfl⟩; refine ⟨?_, hW⟩; rfl))
        simp only [Act.put, List.setIfInBounds_toArray, List.set_cons_zero, List.set_cons_succ]
        refine StepsT.cons (fun W hW => ?_) ?_
        · have c0 := (hW.cell (p := ⟨bb, bo + k, none⟩) HBB.out).trans HBC.out; obtain ⟨g0, g1, gl0, ⟨q0, q1, q2, q3⟩, gl⟩ := (HS.out.next hW).at; first | (refine StepT.off rfl hW ?_; rfl) | (refine StepT.go rfl ?_; go_simp; first | (refine ⟨?_, hW⟩; rfl) | (refine Calls.mono (CW.out _) ?_; rintro e w8 ⟨rfl, rfl⟩; refine ⟨?_, hW⟩; rfl))
        simp only [Act.put, List.setIfInBounds_toArray, List.set_cons_zero, List.set_cons_succ]
        refine StepsT.cons (fun W hW => ?_) ?_
        · have c0 := (hW.cell (p := ⟨bb, bo + k, none⟩) HBB.out).trans HBC.out; obtain ⟨g0, g1, gl0, ⟨q0, q1, q2, q3⟩, gl⟩ := (HS.out.next hW).at; first | (refine StepT.off rfl hW ?_; rfl) | (refine StepT.go rfl ?_; go_simp; first | (refine ⟨?_, hW⟩; rfl) | (refine Calls.mono (CW.out _) ?_; rintro e w8 ⟨rfl, rfl⟩; refine ⟨?_, hW⟩; rfl))
        simp only [Act.put, List.setIfInBounds_toArray, List.set_cons_zero, List.set_cons_succ]
        refine StepsT.cons (fun W hW => ?_) ?_
        · have c0 := (hW.cell (p := ⟨bb, bo + k, none⟩) HBB.out).trans HBC.out; obtain ⟨g0, g1, gl0, ⟨q0, q1, q2, q3⟩, gl⟩ := (HS.out.next hW).at; first | (refine StepT.off rfl hW ?_; rfl) | (refine StepT.go rfl ?_; go_simp; first | (refine ⟨?_, hW⟩; rfl) | (refine Calls.mono (CW.out _) ?_; rintro e w8 ⟨rfl, rfl⟩; refine ⟨?_, hW⟩; rfl))
        simp only [Act.put, List.setIfInBounds_toArray, List.set_cons_zero, List.set_cons_succ]
        refine StepsT.cons (fun W hW => ?_) ?_
        · have c0 := (hW.cell (p := ⟨bb, bo + k, none⟩) HBB.out).trans HBC.out; obtain ⟨g0, g1, gl0, ⟨q0, q1, q2, q3⟩, gl⟩ := (HS.out.next hW).at; first | (refine StepT.off rfl hW ?_; rfl) | (refine StepT.go rfl ?_; go_simp; first | (refine ⟨?_, hW⟩; rfl) | (refine Calls.mono (CW.out _) ?_; rintro e w8 ⟨rfl, rfl⟩; refine ⟨?_, hW⟩; rfl))
        simp only [Act.put, List.setIfInBounds_toArray, List.set_cons_zero, List.set_cons_succ]
        refine StepsT.cons (fun W hW => ?_) ?_
        · have c0 := (hW.cell (p := ⟨bb, bo + k, none⟩) HBB.out).trans HBC.out; obtain ⟨g0, g1, gl0, ⟨q0, q1, q2, q3⟩, gl⟩ := (HS.out.next hW).at; first | (refine StepT.off rfl hW ?_; rfl) | (refine StepT.go rfl ?_; go_simp; first | (refine ⟨?_, hW⟩; rfl) | (refine Calls.mono (CW.out _) ?_; rintro e w8 ⟨rfl, rfl⟩; refine ⟨?_, hW⟩; rfl))
        simp only [Act.put, List.setIfInBounds_toArray, List.set_cons_zero, List.set_cons_succ]
        refine StepsT.cons (fun W hW => ?_) ?_
        · have c0 := (hW.cell (p := ⟨bb, bo + k, none⟩) HBB.out).trans HBC.out; obtain ⟨g0, g1, gl0, ⟨q0, q1, q2, q3⟩, gl⟩ := (HS.out.next hW).at; first | (refine StepT.off rfl hW ?_; rfl) | (refine StepT.go rfl ?_; go_simp; first | (refine ⟨?_, hW⟩; rfl) | (refine Calls.mono (CW.out _) ?_; rintro e w8 ⟨rfl, rfl⟩; refine ⟨?_, hW⟩; rfl))
        simp only [Act.put, List.setIfInBounds_toArray, List.set_cons_zero, List.set_cons_succ]
        refine StepsT.cons (fun W hW => ?_) ?_
        · have c0 := (hW.cell (p := ⟨bb, bo + k, none⟩) HBB.out).trans HBC.out; obtain ⟨g0, g1, gl0, ⟨q0, q1, q2, q3⟩, gl⟩ := (HS.out.next hW).at; first | (refine StepT.off rfl hW ?_; rfl) | (refine StepT.go rfl ?_; go_simp; first | (refine ⟨?_, hW⟩; rfl) | (refine Calls.mono (CW.out _) ?_; rintro e w8 ⟨rfl, rfl⟩; refine ⟨?_, hW⟩; rfl))
        simp only [Act.put, List.setIfInBounds_toArray, List.set_cons_zero, List.set_cons_succ]
        trivial
      intro W hW
      simp only [putAll, Act.put, List.setIfInBounds_toArray, List.set_cons_zero, List.set_cons_succ]
      have HS1 := Lib.hid (HS.out.next hW)
      have HBC1 : Hid (W.cell? ⟨bb, bo + k, none⟩ = some (.int .i64 (e0 : Int))) := Lib.hid ((hW.cell (p := ⟨bb, bo + k, none⟩) HBB.out).trans HBC.out)
      have HBB1 : Hid (bb < W.heap.size) := Lib.hid (Nat.lt_of_lt_of_le HBB.out hW.size)
      clear g0 g1 gl0 q0 q1 q2 q3 gl
      clear hbk HBC HBB hW HS hbb
      obtain ⟨g0, g1, gl0, ⟨q0, q1, q2, q3⟩, gl⟩ := HS1.out.at
      have c0 := HBC1.out
      have cbl := HBB1.out
      by_cases h2 : e0 ≤ b0
      case pos =>
        have hE : cbErr (costR g r) g.items.length b0 (e0 : Int) = 9 := by unfold cbErr; rw [if_neg (by omega), if_pos (by omega)]
        have HV : Hid (V = (0, 9)) := Lib.hid (by have := HE.out; rw [hE] at this; exact this (by decide))
        have i2 : (e0 : Int) ≤ (b0 : Int) := by omega
        clear h1 hE HE HN HSX HSS CW h2
        go_wp2
        go_ret2
        exact Ret.mk' (by rw [HV.out]; rfl) (HS1.out.ext.trans (by repeat first | exact xe0 _ | assumption | refine xea ?_ _ | refine xed ?_ | refine xet ?_ (by assumption)))
      case neg =>
      have i2 : ¬ (e0 : Int) ≤ (b0 : Int) := by omega
      have hE : cbErr (costR g r) g.items.length b0 (e0 : Int) = (costR g r b0 e0).2 := by unfold cbErr; rw [if_neg (by omega), if_neg (by omega), Int.toNat_natCast]
      rw [hE] at HE HN
      have CK := Lib.hid (fun W h => CC.out W h b0 e0 (by omega) hen)
      clear hE h1 CW
      generalize hcs : costR g r b0 e0 = cs at *
      obtain ⟨cv, cz⟩ := cs
      simp only at HE HN HSS CK
      have hcv : cz = 0 → 0 ≤ cv ∧ cv ≤ 6000000 := fun h => by
        have := HSM.out b0 e0 (by omega) hen (by rw [hcs]; exact h)
        rw [hcs] at this; exact this
      have HCV := Lib.hid hcv
      clear hcs hcv h2
      go_upto_region 9 with fail
      refine wp_region_steady (Ext _) [?_, ?_, ?_, ?_, ?_, ?_, ?_, ?_, ?_, ?_, ?_, ?_, ?_, ?_] (by kernel_rfl) (by kernel_rfl) rfl (Ext.refl _).drew ?_ ?_
      rotate_left 14
      · refine StepsT.cons (fun W hW => ?_) ?_
        · have c0 := (hW.cell (p := ⟨bb, bo + k, none⟩) HBB1.out).trans HBC1.out; obtain ⟨g0, g1, gl0, ⟨q0, q1, q2, q3⟩, gl⟩ := (HS1.out.next hW).at; first | (refine StepT.off rfl hW ?_; rfl) | (refine StepT.go rfl ?_; go_simp; first | (refine ⟨?_, hW⟩; rfl) | (refine Calls.mono (CK.out _ (HG.out.ext (HS1.out.next hW).ext)) ?_; rintro e w8 ⟨rfl, hb⟩; refine ⟨?_, hW.trans hb⟩; rfl))
        simp only [Act.put, List.setIfInBounds_toArray, List.set_cons_zero, List.set_cons_succ]
        refine StepsT.cons (fun W hW => ?_) ?_
        · have c0 := (hW.cell (p := ⟨bb, bo + k, none⟩) HBB1.out).trans HBC1.out; obtain ⟨g0, g1, gl0, ⟨q0, q1, q2, q3⟩, gl⟩ := (HS1.out.next hW).at; first | (refine StepT.off rfl hW ?_; rfl) | (refine StepT.go rfl ?_; go_simp; first | (refine ⟨?_, hW⟩; rfl) | (refine Calls.mono (CK.out _ (HG.out.ext (HS1.out.next hW).ext)) ?_; rintro e w8 ⟨rfl, hb⟩; refine ⟨?_, hW.trans hb⟩; rfl))
        simp only [Act.put, List.setIfInBounds_toArray, List.set_cons_zero, List.set_cons_succ]
        refine StepsT.cons (fun W hW => ?_) ?_
        · have c0 := (hW.cell (p := ⟨bb, bo + k, none⟩) HBB1.out).trans HBC1.out; obtain ⟨g0, g1, gl0, ⟨q0, q1, q2, q3⟩, gl⟩ := (HS1.out.next hW).at; first | (refine StepT.off rfl hW ?_; rfl) | (refine StepT.go rfl ?_; go_simp; first | (refine ⟨?_, hW⟩; rfl) | (refine Calls.mono (CK.out _ (HG.out.ext (HS1.out.next hW).ext)) ?_; rintro e w8 ⟨rfl, hb⟩; refine ⟨?_, hW.trans hb⟩; rfl))
        simp only [Act.put, List.setIfInBounds_toArray, List.set_cons_zero, List.set_cons_succ]
        refine StepsT.cons (fun W hW => ?_) ?_
        · have c0 := (hW.cell (p := ⟨bb, bo + k, none⟩) HBB1.out).trans HBC1.out; obtain ⟨g0, g1, gl0, ⟨q0, q1, q2, q3⟩, gl⟩ := (HS1.out.next hW).at; first | (refine StepT.off rfl hW ?_; rfl) | (refine StepT.go rfl ?_; go_simp; first | (refine ⟨?_, hW⟩; rfl) | (refine Calls.mono (CK.out _ (HG.out.ext (HS1.out.next hW).ext)) ?_; rintro e w8 ⟨rfl, hb⟩; refine ⟨?_, hW.trans hb⟩; rfl))
        simp only [Act.put, List.setIfInBounds_toArray, List.set_cons_zero, List.set_cons_succ]
        refine StepsT.cons (fun W hW => ?_) ?_
        · have c0 := (hW.cell (p := ⟨bb, bo + k, none⟩) HBB1.out).trans HBC1.out; obtain ⟨g0, g1, gl0, ⟨q0, q1, q2, q3⟩, gl⟩ := (HS1.out.next hW).at; first | (refine StepT.off rfl hW ?_; rfl) | (refine StepT.go rfl ?_; go_simp; first | (refine ⟨?_, hW⟩; rfl) | (refine Calls.mono (CK.out _ (HG.out.ext (HS1.out.next hW).ext)) ?_; rintro e w8 ⟨rfl, hb⟩; refine ⟨?_, hW.trans hb⟩; rfl))
        simp only [Act.put, List.setIfInBounds_toArray, List.set_cons_zero, List.set_cons_succ]
        refine StepsT.cons (fun W hW => ?_) ?_
        · have c0 := (hW.cell (p := ⟨bb, bo + k, none⟩) HBB1.out).trans HBC1.out; obtain ⟨g0, g1, gl0, ⟨q0, q1, q2, q3⟩, gl⟩ := (HS1.out.next hW).at; first | (refine StepT.off rfl hW ?_; rfl) | (refine StepT.go rfl ?_; go_simp; first | (refine ⟨?_, hW⟩; rfl) | (refine Calls.mono (CK.out _ (HG.out.ext (HS1.out.next hW).ext)) ?_; rintro e w8 ⟨rfl, hb⟩; refine ⟨?_, hW.trans hb⟩; rfl))
        simp only [Act.put, List.setIfInBounds_toArray, List.set_cons_zero, List.set_cons_succ]
        refine StepsT.cons (fun W hW => ?_) ?_
        · have c0 := (hW.cell (p := ⟨bb, bo + k, none⟩) HBB1.out).trans HBC1.out; obtain ⟨g0, g1, gl0, ⟨q0, q1, q2, q3⟩, gl⟩ := (HS1.out.next hW).at; first | (refine StepT.off rfl hW ?_; rfl) | (refine StepT.go rfl ?_; go_simp; first | (refine ⟨?_, hW⟩; rfl) | (refine Calls.mono (CK.out _ (HG.out.ext (HS1.out.next hW).ext)) ?_; rintro e w8 ⟨rfl, hb⟩; refine ⟨?_, hW.trans hb⟩; rfl))
        simp only [Act.put, List.setIfInBounds_toArray, List.set_cons_zero, List.set_cons_succ]
        refine StepsT.cons (fun W hW => ?_) ?_
        · have c0 := (hW.cell (p := ⟨bb, bo + k, none⟩) HBB1.out).trans HBC1.out; obtain ⟨g0, g1, gl0, ⟨q0, q1, q2, q3⟩, gl⟩ := (HS1.out.next hW).at; first | (refine StepT.off rfl hW ?_; rfl) | (refine StepT.go rfl ?_; go_simp; first | (refine ⟨?_, hW⟩; rfl) | (refine Calls.mono (CK.out _ (HG.out.ext (HS1.out.next hW).ext)) ?_; rintro e w8 ⟨rfl, hb⟩; refine ⟨?_, hW.trans hb⟩; rfl))
        simp only [Act.put, List.setIfInBounds_toArray, List.set_cons_zero, List.set_cons_succ]
        refine StepsT.cons (fun W hW => ?_) ?_
        · have c0 := (hW.cell (p := ⟨bb, bo + k, none⟩) HBB1.out).trans HBC1.out; obtain ⟨g0, g1, gl0, ⟨q0, q1, q2, q3⟩, gl⟩ := (HS1.out.next hW).at; first | (refine StepT.off rfl hW ?_; rfl) | (refine StepT.go rfl ?_; go_simp; first | (refine ⟨?_, hW⟩; rfl) | (refine Calls.mono (CK.out _ (HG.out.ext (HS1.out.next hW).ext)) ?_; rintro e w8 ⟨rfl, hb⟩; refine ⟨?_, hW.trans hb⟩; rfl))
        simp only [Act.put, List.setIfInBounds_toArray, List.set_cons_zero, List.set_cons_succ]
        refine StepsT.cons (fun W hW => ?_) ?_
        · have c0 := (hW.cell (p := ⟨bb, bo + k, none⟩) HBB1.out).trans HBC1.out; obtain ⟨g0, g1, gl0, ⟨q0, q1, q2, q3⟩, gl⟩ := (HS1.out.next hW).at; first | (refine StepT.off rfl hW ?_; rfl) | (refine StepT.go rfl ?_; go_simp; first | (refine ⟨?_, hW⟩; rfl) | (refine Calls.mono (CK.out _ (HG.out.ext (HS1.out.next hW).ext)) ?_; rintro e w8 ⟨rfl, hb⟩; refine ⟨?_, hW.trans hb⟩; rfl))
        simp only [Act.put, List.setIfInBounds_toArray, List.set_cons_zero, List.set_cons_succ]
        refine StepsT.cons (fun W hW => ?_) ?_
        · have c0 := (hW.cell (p := ⟨bb, bo + k, none⟩) HBB1.out).trans HBC1.out; obtain ⟨g0, g1, gl0, ⟨q0, q1, q2, q3⟩, gl⟩ := (HS1.out.next hW).at; first | (refine StepT.off rfl hW ?_; rfl) | (refine StepT.go rfl ?_; go_simp; first | (refine ⟨?_, hW⟩; rfl) | (refine Calls.mono (CK.out _ (HG.out.ext (HS1.out.next hW).ext)) ?_; rintro e w8 ⟨rfl, hb⟩; refine ⟨?_, hW.trans hb⟩; rfl))
        simp only [Act.put, List.setIfInBounds_toArray, List.set_cons_zero, List.set_cons_succ]
        refine StepsT.cons (fun W hW => ?_) ?_
        · have c0 := (hW.cell (p := ⟨bb, bo + k, none⟩) HBB1.out).trans HBC1.out; obtain ⟨g0, g1, gl0, ⟨q0, q1, q2, q3⟩, gl⟩ := (HS1.out.next hW).at; first | (refine StepT.off rfl hW ?_; rfl) | (refine StepT.go rfl ?_; go_simp; first | (refine ⟨?_, hW⟩; rfl) | (refine Calls.mono (CK.out _ (HG.out.ext (HS1.out.next hW).ext)) ?_; rintro e w8 ⟨rfl, hb⟩; refine ⟨?_, hW.trans hb⟩; rfl))
        simp only [Act.put, List.setIfInBounds_toArray, List.set_cons_zero, List.set_cons_succ]
        refine StepsT.cons (fun W hW => ?_) ?_
        · have c0 := (hW.cell (p := ⟨bb, bo + k, none⟩) HBB1.out).trans HBC1.out; obtain ⟨g0, g1, gl0, ⟨q0, q1, q2, q3⟩, gl⟩ := (HS1.out.next hW).at; first | (refine StepT.off rfl hW ?_; rfl) | (refine StepT.go rfl ?_; go_simp; first | (refine ⟨?_, hW⟩; rfl) | (refine Calls.mono (CK.out _ (HG.out.ext (HS1.out.next hW).ext)) ?_; rintro e w8 ⟨rfl, hb⟩; refine ⟨?_, hW.trans hb⟩; rfl))
        simp only [Act.put, List.setIfInBounds_toArray, List.set_cons_zero, List.set_cons_succ]
        refine StepsT.cons (fun W hW => ?_) ?_
        · have c0 := (hW.cell (p := ⟨bb, bo + k, none⟩) HBB1.out).trans HBC1.out; obtain ⟨g0, g1, gl0, ⟨q0, q1, q2, q3⟩, gl⟩ := (HS1.out.next hW).at; first | (refine StepT.off rfl hW ?_; rfl) | (refine StepT.go rfl ?_; go_simp; first | (refine ⟨?_, hW⟩; rfl) | (refine Calls.mono (CK.out _ (HG.out.ext (HS1.out.next hW).ext)) ?_; rintro e w8 ⟨rfl, hb⟩; refine ⟨?_, hW.trans hb⟩; rfl))
        simp only [Act.put, List.setIfInBounds_toArray, List.set_cons_zero, List.set_cons_succ]
        trivial
      intro W hW
      simp only [putAll, Act.put, List.setIfInBounds_toArray, List.set_cons_zero, List.set_cons_succ]
      have HS2 := Lib.hid (HS1.out.next hW)
      have HBC2 : Hid (W.cell? ⟨bb, bo + k, none⟩ = some (.int .i64 (e0 : Int))) := Lib.hid ((hW.cell (p := ⟨bb, bo + k, none⟩) HBB1.out).trans HBC1.out)
      have HBB2 : Hid (bb < W.heap.size) := Lib.hid (Nat.lt_of_lt_of_le HBB1.out hW.size)
      clear g0 g1 gl0 q0 q1 q2 q3 gl
      clear c0 cbl hW
      by_cases h3 : cz = 0
      case neg =>
        have HV : Hid (V = (0, cz)) := Lib.hid (HE.out h3)
        have i3 : (cz != 0) = true := by simpa using h3
        clear h3 HE HN HSX HSS HCV
        go_wp2
        go_ret2
        exact Ret.mk' (by rw [HV.out]; rfl) (HS2.out.ext.trans (by repeat first | exact xe0 _ | assumption | refine xea ?_ _ | refine xed ?_ | refine xet ?_ (by assumption)))
      case pos =>
        have HN2 := Lib.hid (HN.out h3)
        obtain ⟨v1, v2⟩ := HCV.out h3
        subst h3
        have hws : IntKind.i64.wrap (brkSum (costR g r) 0 l k + cv) = brkSum (costR g r) 0 l k + cv := by rw [IntWalk.i64_in _ (by omega)]
        clear HE HN HCV
        go_upto_region 12 with fail
        refine wp_region_steady (Ext _) [?_, ?_, ?_, ?_, ?_, ?_, ?_, ?_, ?_] (by kernel_rfl) (by kernel_rfl) rfl (Ext.refl _).drew ?_ ?_
        rotate_left 9
        · refine StepsT.cons (fun W hW => ?_) ?_
          · have c0 := (hW.cell (p := ⟨bb, bo + k, none⟩) HBB2.out).trans HBC2.out; first | (refine StepT.off rfl hW ?_; rfl) | (refine StepT.go rfl ?_; go_simp; first | (refine ⟨?_, hW⟩; rfl))
          simp only [Act.put, List.setIfInBounds_toArray, List.set_cons_zero, List.set_cons_succ]
          refine StepsT.cons (fun W hW => ?_) ?_
          · have c0 := (hW.cell (p := ⟨bb, bo + k, none⟩) HBB2.out).trans HBC2.out; first | (refine StepT.off rfl hW ?_; rfl) | (refine StepT.go rfl ?_; go_simp; first | (refine ⟨?_, hW⟩; rfl))
          simp only [Act.put, List.setIfInBounds_toArray, List.set_cons_zero, List.set_cons_succ]
          refine StepsT.cons (fun W hW => ?_) ?_
          · have c0 := (hW.cell (p := ⟨bb, bo + k, none⟩) HBB2.out).trans HBC2.out; first | (refine StepT.off rfl hW ?_; rfl) | (refine StepT.go rfl ?_; go_simp; first | (refine ⟨?_, hW⟩; rfl))
          simp only [Act.put, List.setIfInBounds_toArray, List.set_cons_zero, List.set_cons_succ]
          refine StepsT.cons (fun W hW => ?_) ?_
          · have c0 := (hW.cell (p := ⟨bb, bo + k, none⟩) HBB2.out).trans HBC2.out; first | (refine StepT.off rfl hW ?_; rfl) | (refine StepT.go rfl ?_; go_simp; first | (refine ⟨?_, hW⟩; rfl))
          simp only [Act.put, List.setIfInBounds_toArray, List.set_cons_zero, List.set_cons_succ]
          refine StepsT.cons (fun W hW => ?_) ?_
          · have c0 := (hW.cell (p := ⟨bb, bo + k, none⟩) HBB2.out).trans HBC2.out; first | (refine StepT.off rfl hW ?_; rfl) | (refine StepT.go rfl ?_; go_simp; first | (refine ⟨?_, hW⟩; rfl))
          simp only [Act.put, List.setIfInBounds_toArray, List.set_cons_zero, List.set_cons_succ]
          refine StepsT.cons (fun W hW => ?_) ?_
          · have c0 := (hW.cell (p := ⟨bb, bo + k, none⟩) HBB2.out).trans HBC2.out; first | (refine StepT.off rfl hW ?_; rfl) | (refine StepT.go rfl ?_; go_simp; first | (refine ⟨?_, hW⟩; rfl))
          simp only [Act.put, List.setIfInBounds_toArray, List.set_cons_zero, List.set_cons_succ]
          refine StepsT.cons (fun W hW => ?_) ?_
          · have c0 := (hW.cell (p := ⟨bb, bo + k, none⟩) HBB2.out).trans HBC2.out; first | (refine StepT.off rfl hW ?_; rfl) | (refine StepT.go rfl ?_; go_simp; first | (refine ⟨?_, hW⟩; rfl))
          simp only [Act.put, List.setIfInBounds_toArray, List.set_cons_zero, List.set_cons_succ]
          refine StepsT.cons (fun W hW => ?_) ?_
          · have c0 := (hW.cell (p := ⟨bb, bo + k, none⟩) HBB2.out).trans HBC2.out; first | (refine StepT.off rfl hW ?_; rfl) | (refine StepT.go rfl ?_; go_simp; first | (refine ⟨?_, hW⟩; rfl))
          simp only [Act.put, List.setIfInBounds_toArray, List.set_cons_zero, List.set_cons_succ]
          refine StepsT.cons (fun W hW => ?_) ?_
          · have c0 := (hW.cell (p := ⟨bb, bo + k, none⟩) HBB2.out).trans HBC2.out; first | (refine StepT.off rfl hW ?_; rfl) | (refine StepT.go rfl ?_; go_simp; first | (refine ⟨?_, hW⟩; rfl))
          simp only [Act.put, List.setIfInBounds_toArray, List.set_cons_zero, List.set_cons_succ]
          trivial
        intro W hW
        simp only [putAll, Act.put, List.setIfInBounds_toArray, List.set_cons_zero, List.set_cons_succ]
        go_wp2
        go_roundw
        case rel => exact ⟨k + 1, by omega, by go_num, by rw [HSX.out], by rw [HSS.out], HN2, Lib.hid (HS2.out.next (Ext.trans hW (by repeat first | exact xe0 _ | assumption | refine xea ?_ _ | refine xed ?_ | refine xet ?_ (by assumption))))⟩
        case measure => simp [intOf] <;> omega
end Go.Proofs.YtpkmapngdkkglaaGreatDoor
