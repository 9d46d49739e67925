/-
  Walks: chapter 5: the reference's pages: whether places are those of a page, its core, its notes, and what it uses.
-/
import Derived.Test.YtpkmapngdkkglaaGreatDoorGI
namespace Go.Proofs.YtpkmapngdkkglaaGreatDoor
open Go.RowKit

/-- The boxes of a galley and of a page. -/
structure B2 (w : World) (cg ca : Array Value) (W : World) : Prop where
  ext : Ext w W
  bg : Blk W w.heap.size 25 cg
  ba : Blk W (w.heap.size + 1) 28 ca
/-- The boxes of a galley, of rules and of a page. -/
structure B3 (w : World) (cg cq ca : Array Value) (W : World) : Prop where
  ext : Ext w W
  bg : Blk W w.heap.size 25 cg
  bq : Blk W (w.heap.size + 1) 27 cq
  ba : Blk W (w.heap.size + 1 + 1) 28 ca
section
variable {w W W' : World} {cg cq ca : Array Value} {a b c d e f x y : Value}
theorem B2.next (h : B2 w cg ca W) (hx : Ext W W') : B2 w cg ca W' := ⟨h.ext.trans hx, h.bg.ext hx, h.ba.ext hx⟩
theorem B3.next (h : B3 w cg cq ca W) (hx : Ext W W') : B3 w cg cq ca W' := ⟨h.ext.trans hx, h.bg.ext hx, h.bq.ext hx, h.ba.ext hx⟩
theorem B2.at (h : B2 w #[a, b] #[x, y] W) : W.cell? ⟨w.heap.size, 0, none⟩ = some a ∧ W.cell? ⟨w.heap.size, 1, none⟩ = some b ∧ W.cell? ⟨w.heap.size + 1, 0, none⟩ = some x ∧ W.cell? ⟨w.heap.size + 1, 1, none⟩ = some y ∧ w.heap.size + 1 < W.heap.size :=
  ⟨h.bg.cell 0 _ rfl, h.bg.cell 1 _ rfl, h.ba.cell 0 _ rfl, h.ba.cell 1 _ rfl, h.ba.lt⟩
theorem B3.at (h : B3 w #[a, b] #[c, d, e, f] #[x, y] W) : W.cell? ⟨w.heap.size, 0, none⟩ = some a ∧ W.cell? ⟨w.heap.size, 1, none⟩ = some b ∧ (W.cell? ⟨w.heap.size + 1, 0, none⟩ = some c ∧ W.cell? ⟨w.heap.size + 1, 1, none⟩ = some d ∧ W.cell? ⟨w.heap.size + 1, 2, none⟩ = some e ∧ W.cell? ⟨w.heap.size + 1, 3, none⟩ = some f) ∧
    W.cell? ⟨w.heap.size + 1 + 1, 0, none⟩ = some x ∧ W.cell? ⟨w.heap.size + 1 + 1, 1, none⟩ = some y ∧ w.heap.size + 1 + 1 < W.heap.size :=
  ⟨h.bg.cell 0 _ rfl, h.bg.cell 1 _ rfl, ⟨h.bq.cell 0 _ rfl, h.bq.cell 1 _ rfl, h.bq.cell 2 _ rfl, h.bq.cell 3 _ rfl⟩, h.ba.cell 0 _ rfl, h.ba.cell 1 _ rfl, h.ba.lt⟩
end
theorem B2.push {w W W' W2 : World} {cg ca : Array Value} {v : Value} {zs : List Int} (h : B2 w cg ca W) (ho : Own W (w.heap.size + 1 + 1) v zs) (hx : Ext W W') (hg : W'.grownBy W2 v.ownBlock) : B2 w cg ca W2 := by
  have h1 := h.next hx
  have hb : ∀ k, v.ownBlock = some k → w.heap.size + 1 + 1 ≤ k := fun k hk => ho.base_le k hk
  refine ⟨h1.ext.grown hg fun k hk => by have := hb k hk; omega, (hg.block _ h1.bg.lt fun e => ?_).trans h1.bg, (hg.block _ h1.ba.lt fun e => ?_).trans h1.ba⟩
  · have := hb _ e.symm; omega
  · have := hb _ e.symm; omega
theorem B2.start (w : World) (cg ca : Array Value) : B2 w cg ca ((w.alloc (.cells cg 25)).alloc (.cells ca 28)) := ⟨(by repeat (first | exact Ext.refl _ | assumption | refine Ext.alloc ?_ _ | refine Ext.drew ?_ | refine Ext.drewN ?_ _ | (refine Ext.setCell ?_ (by simp <;> omega) _) | refine Ext.trans ?_ (by assumption))), (Blk.new w _ _).alloc _, Blk.new1 w _ _ _⟩
theorem B3.start (w : World) (cg cq ca : Array Value) : B3 w cg cq ca (((w.alloc (.cells cg 25)).alloc (.cells cq 27)).alloc (.cells ca 28)) := ⟨(by repeat (first | exact Ext.refl _ | assumption | refine Ext.alloc ?_ _ | refine Ext.drew ?_ | refine Ext.drewN ?_ _ | (refine Ext.setCell ?_ (by simp <;> omega) _) | refine Ext.trans ?_ (by assumption))), ((Blk.new w _ _).alloc _).alloc _, (Blk.new1 w _ _ _).alloc _, Blk.new2 w _ _ _ _⟩

set_option maxHeartbeats 2000000 in
theorem rIsPage_any (g : GT) (p : GA) (x y : Int) (w : World) (hn : g.items.length ≤ 1000) : Calls Tryz.prog 17 #[g.val p, .agg #[.int .i64 x, .int .i64 y]] w (Ret (.bool (pageB g.items.length x y)) w) := by
  have HV : Hid (pageB g.items.length x y = (decide (0 ≤ x ∧ x ≤ (g.items.length : Int) - 1) && decide (x + 1 ≤ y ∧ y ≤ (g.items.length : Int)))) := Lib.hid rfl
  generalize pageB g.items.length x y = V at *
  unfold GT.val
  generalize g.items.length = n at *
  by_cases h1 : 0 ≤ x ∧ x ≤ (n : Int) - 1
  case neg =>
    go_enter Tryz.func17, Tryz.ntmps17
    go_wp2_with (first | (go_at_call 58; refine Calls.mono (bWithin_yes _ _ _ _ ?_) ?_; (omega); rintro e w1 ⟨rfl, rfl⟩) | (go_at_call 58; refine Calls.mono (bWithin_no _ _ _ _ ?_) ?_; (omega); rintro e w1 ⟨rfl, rfl⟩))
    go_ret
    exact Ret.mk' (by rw [HV.out, decide_eq_false h1]; rfl) (by repeat (first | exact Ext.refl _ | assumption | refine Ext.alloc ?_ _ | refine Ext.drew ?_ | refine Ext.drewN ?_ _ | (refine Ext.setCell ?_ (by simp <;> omega) _) | refine Ext.trans ?_ (by assumption)))
  case pos =>
  by_cases h2 : x + 1 ≤ y ∧ y ≤ (n : Int)
  case neg =>
    go_enter Tryz.func17, Tryz.ntmps17
    go_wp2_with (first | (go_at_call 58; refine Calls.mono (bWithin_yes _ _ _ _ ?_) ?_; (omega); rintro e w1 ⟨rfl, rfl⟩) | (go_at_call 58; refine Calls.mono (bWithin_no _ _ _ _ ?_) ?_; (omega); rintro e w1 ⟨rfl, rfl⟩))
    go_ret
    exact Ret.mk' (by rw [HV.out, decide_eq_true h1, decide_eq_false h2]; rfl) (by repeat (first | exact Ext.refl _ | assumption | refine Ext.alloc ?_ _ | refine Ext.drew ?_ | refine Ext.drewN ?_ _ | (refine Ext.setCell ?_ (by simp <;> omega) _) | refine Ext.trans ?_ (by assumption)))
  case pos =>
    go_enter Tryz.func17, Tryz.ntmps17
    go_wp2_with (first | (go_at_call 58; refine Calls.mono (bWithin_yes _ _ _ _ ?_) ?_; (omega); rintro e w1 ⟨rfl, rfl⟩) | (go_at_call 58; refine Calls.mono (bWithin_no _ _ _ _ ?_) ?_; (omega); rintro e w1 ⟨rfl, rfl⟩))
    go_ret
    exact Ret.mk' (by rw [HV.out, decide_eq_true h1, decide_eq_true h2]; rfl) (by repeat (first | exact Ext.refl _ | assumption | refine Ext.alloc ?_ _ | refine Ext.drew ?_ | refine Ext.drewN ?_ _ | (refine Ext.setCell ?_ (by simp <;> omega) _) | refine Ext.trans ?_ (by assumption)))

theorem rbackG_stop {xs : List IT} {a k : Nat} (h : ¬ (a < k ∧ (xs.getD (k - 1) IT.zero).kind = 4)) : backG xs a k = k := by
  cases k with
  | zero => rfl
  | succ k => rw [backG, if_neg (by simpa using h)]
theorem rbackG_on {xs : List IT} {a k : Nat} (h : a < k + 1 ∧ (xs.getD k IT.zero).kind = 4) : backG xs a (k + 1) = backG xs a k := by rw [backG, if_pos h]
theorem rfrontG_stop {xs : List IT} {b n k : Nat} (h : ¬ (k < b ∧ (xs.getD k IT.zero).kind = 4)) : frontG xs b n k = k := by
  cases n with
  | zero => rfl
  | succ n => rw [frontG, if_neg h]
theorem rfrontG_on {xs : List IT} {b n k : Nat} (h : k < b ∧ (xs.getD k IT.zero).kind = 4) : frontG xs b (n + 1) k = frontG xs b n (k + 1) := by rw [frontG, if_pos h]
set_option maxRecDepth 100000 in
set_option maxHeartbeats 8000000 in
theorem rCore_any (g : GT) (p : GA) (a b : Nat) (w : World) (hg : GR w p g) (hab : a < b) (hb : b ≤ g.items.length) (hn : g.items.length ≤ 1000) :
    Calls Tryz.prog 60 #[g.val p, .agg #[.int .i64 (a : Int), .int .i64 (b : Int)]] w (Ret (.tuple #[.int .i64 (frontR g.items a b : Int), .int .i64 (backR g.items a b : Int)]) w) := by
  obtain ⟨bA, off, hA, hbw, hcell⟩ := hg.rp.2.2 (by omega)
  have HRP := Lib.hid hg.rp; clear hg hcell
  have HB0 : Hid (backG g.items a b = backR g.items a b) := Lib.hid rfl
  have HF0 : Hid (frontG g.items (backR g.items a b) (backR g.items a b - a) a = frontR g.items a b) := Lib.hid rfl
  have hbd := backG_spec g.items a b (Nat.le_of_lt hab)
  have hbd1 : a ≤ backR g.items a b := hbd.1
  have hbd2 : backR g.items a b ≤ b := hbd.2.1
  generalize backR g.items a b = kb at *
  generalize frontR g.items a b = kf at *
  unfold GT.val
  rw [hA] at HRP ⊢
  clear hbd
  rcases (show kb = a ∨ ∃ m, kb = m + 1 ∧ a ≤ m from by
    by_cases h : kb = a
    · exact .inl h
    · exact .inr ⟨kb - 1, by omega, by omega⟩) with h9 | ⟨m, h9, hm9⟩
  · have h8 := h9.symm
    subst h8
    go_enter Tryz.func60, Tryz.ntmps60
    have HS0 := Lib.hid (B2.start w #[.slice (some ⟨bA, off, none⟩) g.items.length p.c, .slice p.B g.notes.length p.d] #[.int .i64 (a : Int), .int .i64 (b : Int)])
    obtain ⟨g0, g1, a0, a1, gl⟩ := HS0.out.at
    go_upto_region 1 with fail
    refine wp_region_steady (Ext _) [?_, ?_, ?_, ?_, ?_, ?_] (by kernel_rfl) (by kernel_rfl) rfl (Ext.refl _).drew ?_ ?_
    rotate_left 6
    · refine StepsT.cons (fun W hW => ?_) ?_
      · obtain ⟨g0, g1, a0, a1, gl⟩ := (HS0.out.next hW).at; first | (refine StepT.off rfl hW ?_; rfl) | (refine StepT.go rfl ?_; go_simp; first | (refine ⟨?_, hW⟩; rfl))
      simp only [Act.put, List.setIfInBounds_toArray, List.set_cons_zero, List.set_cons_succ]
      refine StepsT.cons (fun W hW => ?_) ?_
      · obtain ⟨g0, g1, a0, a1, gl⟩ := (HS0.out.next hW).at; first | (refine StepT.off rfl hW ?_; rfl) | (refine StepT.go rfl ?_; go_simp; first | (refine ⟨?_, hW⟩; rfl))
      simp only [Act.put, List.setIfInBounds_toArray, List.set_cons_zero, List.set_cons_succ]
      refine StepsT.cons (fun W hW => ?_) ?_
      · obtain ⟨g0, g1, a0, a1, gl⟩ := (HS0.out.next hW).at; first | (refine StepT.off rfl hW ?_; rfl) | (refine StepT.go rfl ?_; go_simp; first | (refine ⟨?_, hW⟩; rfl))
      simp only [Act.put, List.setIfInBounds_toArray, List.set_cons_zero, List.set_cons_succ]
      refine StepsT.cons (fun W hW => ?_) ?_
      · obtain ⟨g0, g1, a0, a1, gl⟩ := (HS0.out.next hW).at; first | (refine StepT.off rfl hW ?_; rfl) | (refine StepT.go rfl ?_; go_simp; first | (refine ⟨?_, hW⟩; rfl))
      simp only [Act.put, List.setIfInBounds_toArray, List.set_cons_zero, List.set_cons_succ]
      refine StepsT.cons (fun W hW => ?_) ?_
      · obtain ⟨g0, g1, a0, a1, gl⟩ := (HS0.out.next hW).at; first | (refine StepT.off rfl hW ?_; rfl) | (refine StepT.go rfl ?_; go_simp; first | (refine ⟨?_, hW⟩; rfl))
      simp only [Act.put, List.setIfInBounds_toArray, List.set_cons_zero, List.set_cons_succ]
      refine StepsT.cons (fun W hW => ?_) ?_
      · obtain ⟨g0, g1, a0, a1, gl⟩ := (HS0.out.next hW).at; first | (refine StepT.off rfl hW ?_; rfl) | (refine StepT.go rfl ?_; go_simp; first | (refine ⟨?_, hW⟩; rfl))
      simp only [Act.put, List.setIfInBounds_toArray, List.set_cons_zero, List.set_cons_succ]
      trivial
    intro W hW
    simp only [putAll, Act.put, List.setIfInBounds_toArray, List.set_cons_zero, List.set_cons_succ]
    have HS1 := Lib.hid (HS0.out.next hW)
    clear HS0 g0 g1 a0 a1 gl hW
    go_wp2
    go_loopw [7] (fun v wr => ∃ k : Nat, a ≤ k ∧ k ≤ b ∧ v = .int .i64 (k : Int) ∧ Hid (backG g.items a k = a) ∧ Hid (B2 w #[.slice (some ⟨bA, off, none⟩) g.items.length p.c, .slice p.B g.notes.length p.d] #[.int .i64 (a : Int), .int .i64 (b : Int)] wr)) (fun v _ => (intOf v).toNat)
    case atStart => exact ⟨b, Nat.le_of_lt hab, Nat.le_refl _, rfl, HB0, HS1⟩
    case round =>
      obtain ⟨k, hk1, hk2, rfl, HB, HS⟩ := hrel
      clear HS1 HB0
      obtain ⟨g0, g1, a0, a1, gl⟩ := HS.out.at
      obtain ⟨_, _, he, _, hcell⟩ := (HRP.out.ext HS.out.ext).2.2 (by omega)
      cases he
      by_cases hgo : a < k ∧ (g.items.getD (k - 1) IT.zero).kind = 4
      case pos =>
        obtain ⟨q, rfl⟩ : ∃ q, k = q + 1 := ⟨k - 1, by omega⟩
        rw [Nat.add_sub_cancel] at hgo
        have HB2 : Hid (backG g.items a q = a) := Lib.hid (by rw [← rbackG_on hgo]; exact HB.out)
        obtain ⟨c0, c1, c2, c3, c4⟩ := hcell q (by omega)
        rw [hgo.2] at c0
        have i1 : (a : Int) < (q : Int) + 1 := by omega
        have i2 : (q : Int) < (g.items.length : Int) := by omega
        clear hcell HB hgo
        go_wp2
        go_roundw
        case rel => exact ⟨q, by omega, by omega, by go_num, HB2, Lib.hid (HS.out.next (by repeat (first | exact Ext.refl _ | assumption | refine Ext.alloc ?_ _ | refine Ext.drew ?_ | refine Ext.drewN ?_ _ | (refine Ext.setCell ?_ (by simp <;> omega) _) | refine Ext.trans ?_ (by assumption))))⟩
        case measure => simp [intOf] <;> omega
      case neg =>
        have hk : k = a := by have h9 := HB.out; rw [rbackG_stop hgo] at h9; exact h9
        have hk8 := hk.symm; subst hk8
        clear HB hcell
        go_wp2
        have HS2 := Lib.hid (HS.out.next (by repeat (first | exact Ext.refl _ | assumption | refine Ext.alloc ?_ _ | refine Ext.drew ?_ | refine Ext.drewN ?_ _ | (refine Ext.setCell ?_ (by simp <;> omega) _) | refine Ext.trans ?_ (by assumption))))
        clear g0 g1 a0 a1 gl HS
        go_loopw [6] (fun v wr => ∃ k : Nat, a ≤ k ∧ k ≤ a ∧ v = .int .i64 (k : Int) ∧ Hid (frontG g.items (a) (a - k) k = kf) ∧ Hid (B2 w #[.slice (some ⟨bA, off, none⟩) g.items.length p.c, .slice p.B g.notes.length p.d] #[.int .i64 (a : Int), .int .i64 (b : Int)] wr)) (fun v _ => a - (intOf v).toNat)
        case atStart => exact ⟨a, Nat.le_refl _, by omega, rfl, HF0, HS2⟩
        case round =>
          obtain ⟨k, hk1, hk2, rfl, HF, HS⟩ := hrel
          clear HS2 HF0
          obtain ⟨g0, g1, a0, a1, gl⟩ := HS.out.at
          obtain ⟨_, _, he, _, hcell⟩ := (HRP.out.ext HS.out.ext).2.2 (by omega)
          cases he
          by_cases hlt : k < a
          case neg =>
            obtain rfl : a = k := by omega
            have hkf : a = kf := by have h9 := HF.out; rw [rfrontG_stop (fun h => hlt h.1)] at h9; exact h9
            subst hkf
            clear hcell HF
            go_wp2
            go_ret2
            exact Ret.mk' rfl (HS.out.ext.trans (by repeat (first | exact Ext.refl _ | assumption | refine Ext.alloc ?_ _ | refine Ext.drew ?_ | refine Ext.drewN ?_ _ | (refine Ext.setCell ?_ (by simp <;> omega) _) | refine Ext.trans ?_ (by assumption))))
          case pos =>
            exact absurd hlt (by omega)
  · subst h9
    go_enter Tryz.func60, Tryz.ntmps60
    have HS0 := Lib.hid (B2.start w #[.slice (some ⟨bA, off, none⟩) g.items.length p.c, .slice p.B g.notes.length p.d] #[.int .i64 (a : Int), .int .i64 (b : Int)])
    obtain ⟨g0, g1, a0, a1, gl⟩ := HS0.out.at
    go_upto_region 1 with fail
    refine wp_region_steady (Ext _) [?_, ?_, ?_, ?_, ?_, ?_] (by kernel_rfl) (by kernel_rfl) rfl (Ext.refl _).drew ?_ ?_
    rotate_left 6
    · refine StepsT.cons (fun W hW => ?_) ?_
      · obtain ⟨g0, g1, a0, a1, gl⟩ := (HS0.out.next hW).at; first | (refine StepT.off rfl hW ?_; rfl) | (refine StepT.go rfl ?_; go_simp; first | (refine ⟨?_, hW⟩; rfl))
      simp only [Act.put, List.setIfInBounds_toArray, List.set_cons_zero, List.set_cons_succ]
      refine StepsT.cons (fun W hW => ?_) ?_
      · obtain ⟨g0, g1, a0, a1, gl⟩ := (HS0.out.next hW).at; first | (refine StepT.off rfl hW ?_; rfl) | (refine StepT.go rfl ?_; go_simp; first | (refine ⟨?_, hW⟩; rfl))
      simp only [Act.put, List.setIfInBounds_toArray, List.set_cons_zero, List.set_cons_succ]
      refine StepsT.cons (fun W hW => ?_) ?_
      · obtain ⟨g0, g1, a0, a1, gl⟩ := (HS0.out.next hW).at; first | (refine StepT.off rfl hW ?_; rfl) | (refine StepT.go rfl ?_; go_simp; first | (refine ⟨?_, hW⟩; rfl))
      simp only [Act.put, List.setIfInBounds_toArray, List.set_cons_zero, List.set_cons_succ]
      refine StepsT.cons (fun W hW => ?_) ?_
      · obtain ⟨g0, g1, a0, a1, gl⟩ := (HS0.out.next hW).at; first | (refine StepT.off rfl hW ?_; rfl) | (refine StepT.go rfl ?_; go_simp; first | (refine ⟨?_, hW⟩; rfl))
      simp only [Act.put, List.setIfInBounds_toArray, List.set_cons_zero, List.set_cons_succ]
      refine StepsT.cons (fun W hW => ?_) ?_
      · obtain ⟨g0, g1, a0, a1, gl⟩ := (HS0.out.next hW).at; first | (refine StepT.off rfl hW ?_; rfl) | (refine StepT.go rfl ?_; go_simp; first | (refine ⟨?_, hW⟩; rfl))
      simp only [Act.put, List.setIfInBounds_toArray, List.set_cons_zero, List.set_cons_succ]
      refine StepsT.cons (fun W hW => ?_) ?_
      · obtain ⟨g0, g1, a0, a1, gl⟩ := (HS0.out.next hW).at; first | (refine StepT.off rfl hW ?_; rfl) | (refine StepT.go rfl ?_; go_simp; first | (refine ⟨?_, hW⟩; rfl))
      simp only [Act.put, List.setIfInBounds_toArray, List.set_cons_zero, List.set_cons_succ]
      trivial
    intro W hW
    simp only [putAll, Act.put, List.setIfInBounds_toArray, List.set_cons_zero, List.set_cons_succ]
    have HS1 := Lib.hid (HS0.out.next hW)
    clear HS0 g0 g1 a0 a1 gl hW
    go_wp2
    go_loopw [7] (fun v wr => ∃ k : Nat, a ≤ k ∧ k ≤ b ∧ v = .int .i64 (k : Int) ∧ Hid (backG g.items a k = (m + 1)) ∧ Hid (B2 w #[.slice (some ⟨bA, off, none⟩) g.items.length p.c, .slice p.B g.notes.length p.d] #[.int .i64 (a : Int), .int .i64 (b : Int)] wr)) (fun v _ => (intOf v).toNat)
    case atStart => exact ⟨b, Nat.le_of_lt hab, Nat.le_refl _, rfl, HB0, HS1⟩
    case round =>
      obtain ⟨k, hk1, hk2, rfl, HB, HS⟩ := hrel
      clear HS1 HB0
      obtain ⟨g0, g1, a0, a1, gl⟩ := HS.out.at
      obtain ⟨_, _, he, _, hcell⟩ := (HRP.out.ext HS.out.ext).2.2 (by omega)
      cases he
      by_cases hgo : a < k ∧ (g.items.getD (k - 1) IT.zero).kind = 4
      case pos =>
        obtain ⟨q, rfl⟩ : ∃ q, k = q + 1 := ⟨k - 1, by omega⟩
        rw [Nat.add_sub_cancel] at hgo
        have HB2 : Hid (backG g.items a q = (m + 1)) := Lib.hid (by rw [← rbackG_on hgo]; exact HB.out)
        obtain ⟨c0, c1, c2, c3, c4⟩ := hcell q (by omega)
        rw [hgo.2] at c0
        have i1 : (a : Int) < (q : Int) + 1 := by omega
        have i2 : (q : Int) < (g.items.length : Int) := by omega
        clear hcell HB hgo
        go_wp2
        go_roundw
        case rel => exact ⟨q, by omega, by omega, by go_num, HB2, Lib.hid (HS.out.next (by repeat (first | exact Ext.refl _ | assumption | refine Ext.alloc ?_ _ | refine Ext.drew ?_ | refine Ext.drewN ?_ _ | (refine Ext.setCell ?_ (by simp <;> omega) _) | refine Ext.trans ?_ (by assumption))))⟩
        case measure => simp [intOf] <;> omega
      case neg =>
        have hk : k = (m + 1) := by have h9 := HB.out; rw [rbackG_stop hgo] at h9; exact h9
        subst hk; obtain ⟨c0, c1, c2, c3, c4⟩ := hcell m (by omega); have e0 : ((g.items.getD m IT.zero).kind == 4) = false := (by rw [beq_eq_false_iff_ne]; exact fun h => hgo ⟨by omega, by simpa using h⟩); generalize (g.items.getD m IT.zero).kind = xk at *; have i1 : (a : Int) < (m : Int) + 1 := (by omega); have i2 : (m : Int) < (g.items.length : Int) := (by omega); simp only [Int.natCast_add, Int.natCast_one]
        clear HB hcell
        go_wp2
        have HS2 := Lib.hid (HS.out.next (by repeat (first | exact Ext.refl _ | assumption | refine Ext.alloc ?_ _ | refine Ext.drew ?_ | refine Ext.drewN ?_ _ | (refine Ext.setCell ?_ (by simp <;> omega) _) | refine Ext.trans ?_ (by assumption))))
        clear g0 g1 a0 a1 gl HS
        go_loopw [6] (fun v wr => ∃ k : Nat, a ≤ k ∧ k ≤ (m + 1) ∧ v = .int .i64 (k : Int) ∧ Hid (frontG g.items ((m + 1)) ((m + 1) - k) k = kf) ∧ Hid (B2 w #[.slice (some ⟨bA, off, none⟩) g.items.length p.c, .slice p.B g.notes.length p.d] #[.int .i64 (a : Int), .int .i64 (b : Int)] wr)) (fun v _ => (m + 1) - (intOf v).toNat)
        case atStart => exact ⟨a, Nat.le_refl _, by omega, rfl, HF0, HS2⟩
        case round =>
          obtain ⟨k, hk1, hk2, rfl, HF, HS⟩ := hrel
          clear HS2 HF0
          obtain ⟨g0, g1, a0, a1, gl⟩ := HS.out.at
          obtain ⟨_, _, he, _, hcell⟩ := (HRP.out.ext HS.out.ext).2.2 (by omega)
          cases he
          by_cases hlt : k < (m + 1)
          case neg =>
            obtain rfl : (m + 1) = k := by omega
            have hkf : (m + 1) = kf := by have h9 := HF.out; rw [rfrontG_stop (fun h => hlt h.1)] at h9; exact h9
            subst hkf
            clear hcell HF
            go_wp2
            go_ret2
            exact Ret.mk' rfl (HS.out.ext.trans (by repeat (first | exact Ext.refl _ | assumption | refine Ext.alloc ?_ _ | refine Ext.drew ?_ | refine Ext.drewN ?_ _ | (refine Ext.setCell ?_ (by simp <;> omega) _) | refine Ext.trans ?_ (by assumption))))
          case pos =>
            have i1 : (k : Int) < (m : Int) + 1 := by omega
            have i2 : (k : Int) < (g.items.length : Int) := by omega
            obtain ⟨c0, c1, c2, c3, c4⟩ := hcell k (by omega)
            by_cases h4 : (g.items.getD k IT.zero).kind = 4
            case pos =>
              have HF2 : Hid (frontG g.items ((m + 1)) ((m + 1) - (k + 1)) (k + 1) = kf) := Lib.hid (by
                have h9 := HF.out
                rw [show (m + 1) - k = ((m + 1) - (k + 1)) + 1 by omega, rfrontG_on ⟨hlt, h4⟩] at h9
                exact h9)
              rw [h4] at c0
              clear hcell HF h4
              go_wp2
              go_roundw
              case rel => exact ⟨k + 1, by omega, by omega, by go_num, HF2, Lib.hid (HS.out.next (by repeat (first | exact Ext.refl _ | assumption | refine Ext.alloc ?_ _ | refine Ext.drew ?_ | refine Ext.drewN ?_ _ | (refine Ext.setCell ?_ (by simp <;> omega) _) | refine Ext.trans ?_ (by assumption))))⟩
              case measure => simp [intOf] <;> omega
            case neg =>
              have hkf : k = kf := by have h9 := HF.out; rw [rfrontG_stop (fun h => h4 h.2)] at h9; exact h9
              subst hkf
              have e0 : ((g.items.getD k IT.zero).kind == 4) = false := by simpa using h4
              generalize (g.items.getD k IT.zero).kind = xk at *
              clear hcell HF h4
              go_wp2
              go_ret2
              exact Ret.mk' rfl (HS.out.ext.trans (by repeat (first | exact Ext.refl _ | assumption | refine Ext.alloc ?_ _ | refine Ext.drew ?_ | refine Ext.drewN ?_ _ | (refine Ext.setCell ?_ (by simp <;> omega) _) | refine Ext.trans ?_ (by assumption))))
set_option maxRecDepth 100000 in
set_option maxHeartbeats 8000000 in
theorem rNotesOn_any (g : GT) (p : GA) (a b : Nat) (w : World) (hg : GR w p g) (hab : a < b) (hb : b ≤ g.items.length) (hn : g.items.length ≤ 1000) :
    Calls Tryz.prog 19 #[g.val p, .agg #[.int .i64 (a : Int), .int .i64 (b : Int)]] w (RetS (notesR g.items a (b - a)) w) := by
  obtain ⟨bA, off, hA, hbw, hcell⟩ := hg.rp.2.2 (by omega)
  have HRP := Lib.hid hg.rp; clear hg hcell
  have HLN : Hid (∀ n, (notesR g.items a n).length ≤ n) := Lib.hid (notesR_len g.items a)
  unfold GT.val
  rw [hA] at HRP ⊢
  go_enter Tryz.func19, Tryz.ntmps19
  have HS0 := Lib.hid (B2.start w #[.slice (some ⟨bA, off, none⟩) g.items.length p.c, .slice p.B g.notes.length p.d] #[.int .i64 (a : Int), .int .i64 (b : Int)])
  obtain ⟨g0, g1, a0, a1, gl⟩ := HS0.out.at
  go_wp2
  go_loopw [5, 6] (fun v i wr => ∃ j : Nat, a ≤ j ∧ j ≤ b ∧ i = .int .i64 (j : Int) ∧ Hid (Own wr (w.heap.size + 1 + 1) v (notesR g.items a (j - a))) ∧ Hid (B2 w #[.slice (some ⟨bA, off, none⟩) g.items.length p.c, .slice p.B g.notes.length p.d] #[.int .i64 (a : Int), .int .i64 (b : Int)] wr)) (fun _ i _ => b - (intOf i).toNat)
  case atStart => exact ⟨a, Nat.le_refl _, Nat.le_of_lt hab, rfl, Lib.hid (by rw [Nat.sub_self]; exact Own.nil _ _), HS0⟩
  case round =>
    obtain ⟨j, hj1, hj2, rfl, HO, HS⟩ := hrel
    clear HS0 g0 g1 a0 a1 gl
    obtain ⟨g0, g1, a0, a1, gl⟩ := HS.out.at
    obtain ⟨_, _, he, _, hcell⟩ := (HRP.out.ext HS.out.ext).2.2 (by omega)
    cases he
    have hl := HLN.out (j - a)
    by_cases hlt : j < b
    case neg =>
      obtain rfl : j = b := by omega
      obtain ⟨A, c, rfl, hc, hr⟩ := HO.out.form (by omega)
      have HSL := Lib.hid ((SL.of_own HO.out (by omega)).mono (base' := w.heap.size) (by omega))
      clear hcell hc hr hl
      go_wp2
      go_ret
      exact ⟨A, c, rfl, HSL.out.ext (by repeat (first | exact Ext.refl _ | assumption | refine Ext.alloc ?_ _ | refine Ext.drew ?_ | refine Ext.drewN ?_ _ | (refine Ext.setCell ?_ (by simp <;> omega) _) | refine Ext.trans ?_ (by assumption))), HS.out.ext.trans (by repeat (first | exact Ext.refl _ | assumption | refine Ext.alloc ?_ _ | refine Ext.drew ?_ | refine Ext.drewN ?_ _ | (refine Ext.setCell ?_ (by simp <;> omega) _) | refine Ext.trans ?_ (by assumption)))⟩
    case pos =>
      have i1 : (j : Int) < (b : Int) := by omega
      have i2 : (j : Int) < (g.items.length : Int) := by omega
      obtain ⟨c0, c1, c2, c3, c4⟩ := hcell j (by omega)
      have HL : Hid ((notesR g.items a (j - a)).length ≤ 1000) := Lib.hid (by omega)
      have HK : Hid (notesR g.items a (j + 1 - a) = if 0 ≤ (g.items.getD j IT.zero).note then notesR g.items a (j - a) ++ [(g.items.getD j IT.zero).note] else notesR g.items a (j - a)) := Lib.hid (by
        rw [show j + 1 - a = (j - a) + 1 by omega, notesR, show a + (j - a) = j by omega])
      clear hcell hl
      generalize notesR g.items a (j - a) = zk at *
      generalize (g.items.getD j IT.zero).kind = xk at *
      generalize (g.items.getD j IT.zero).height = xh at *
      generalize (g.items.getD j IT.zero).note = xn at *
      generalize (g.items.getD j IT.zero).line = xl at *
      generalize (g.items.getD j IT.zero).many = xm at *
      by_cases hx : 0 ≤ xn
      case pos =>
        have HN : Hid (notesR g.items a (j + 1 - a) = zk ++ [xn]) := Lib.hid (by rw [HK.out, if_pos hx])
        clear HK
        go_wp2_with (first | (at_builtin; refine list_push rfl (.tmp 22) (.tmp 29) rfl (w.heap.size + 1 + 1) _ zk rfl (HO.out.ext (by repeat (first | exact Ext.refl _ | assumption | refine Ext.alloc ?_ _ | refine Ext.drew ?_ | refine Ext.drewN ?_ _ | (refine Ext.setCell ?_ (by simp <;> omega) _) | refine Ext.trans ?_ (by assumption)))) wr.heap.size xn rfl (by simp) (by have := HL.out; omega) (by have := HS.out.ba.lt; simp; omega) ?_; intro v' w' ho hg; have HO2 := Lib.hid ho; have HS2 := Lib.hid (HS.out.push HO.out (by repeat (first | exact Ext.refl _ | assumption | refine Ext.alloc ?_ _ | refine Ext.drew ?_ | refine Ext.drewN ?_ _ | (refine Ext.setCell ?_ (by simp <;> omega) _) | refine Ext.trans ?_ (by assumption))) hg); clear ho hg))
        go_roundw
        case rel => exact ⟨j + 1, by omega, by omega, by go_num, Lib.hid (by rw [HN.out]; exact HO2.out), Lib.hid HS2.out⟩
        case measure => simp [intOf] <;> omega
      case neg =>
        have HN : Hid (notesR g.items a (j + 1 - a) = zk) := Lib.hid (by rw [HK.out, if_neg hx])
        clear HK
        go_wp2
        go_roundw
        case rel => exact ⟨j + 1, by omega, by omega, by go_num, Lib.hid (by rw [HN.out]; exact HO.out.ext (by repeat (first | exact Ext.refl _ | assumption | refine Ext.alloc ?_ _ | refine Ext.drew ?_ | refine Ext.drewN ?_ _ | (refine Ext.setCell ?_ (by simp <;> omega) _) | refine Ext.trans ?_ (by assumption)))), Lib.hid (HS.out.next (by repeat (first | exact Ext.refl _ | assumption | refine Ext.alloc ?_ _ | refine Ext.drew ?_ | refine Ext.drewN ?_ _ | (refine Ext.setCell ?_ (by simp <;> omega) _) | refine Ext.trans ?_ (by assumption))))⟩
        case measure => simp [intOf] <;> omega
/-- What the items of the core use, by the reference's places. -/
theorem hTo_ref (xs : List IT) (a b : Nat) (h : a ≤ b) : hTo xs (frontR xs a b) (backR xs a b - frontR xs a b) = hTo xs (coreA xs a b) (coreB xs a b - coreA xs a b) := by
  obtain ⟨c1, c2, c3⟩ := core_bd xs a b h
  obtain ⟨h1, h2⟩ := core_ref xs a b h
  by_cases hc : coreA xs a b < coreB xs a b
  · obtain ⟨q1, q2⟩ := h1 hc
    rw [q1, q2]
  · have q := h2 hc
    rw [q, Nat.sub_self, show coreB xs a b - coreA xs a b = 0 by omega]
    rfl
theorem back_bd (xs : List IT) (a b : Nat) (h : a ≤ b) : a ≤ frontR xs a b ∧ frontR xs a b ≤ backR xs a b ∧ backR xs a b ≤ b := by
  obtain ⟨q1, q2, _, _⟩ := backG_spec xs a b h
  obtain ⟨p1, p2, _, _⟩ := frontG_spec xs (backR xs a b) (backR xs a b - a) a (Nat.le_refl _) q1
  exact ⟨p1, p2, q2⟩
set_option maxRecDepth 100000 in
set_option maxHeartbeats 8000000 in
theorem rUsed_any (g : GT) (p : GA) (r : QT) (a b : Nat) (w : World) (hg : GR w p g) (hab : a < b) (hb : b ≤ g.items.length) (hr : RightG g) (hq : chkQ r = 0) :
    Calls Tryz.prog 21 #[g.val p, r.val, .agg #[.int .i64 (a : Int), .int .i64 (b : Int)]] w (Ret (.int .i64 (usesR g r a b)) w) := by
  obtain ⟨pA, pc, pB, pd⟩ := p
  have hn := hr.many
  have cC := fun W h => rCore_any g ⟨pA, pc, pB, pd⟩ a b W h hab hb (by omega)
  have cN := fun W h => rNotesOn_any g ⟨pA, pc, pB, pd⟩ a b W h hab hb (by omega)
  obtain ⟨bA, off, rfl, hbw, hcell⟩ := hg.rp.2.2 (by omega)
  have HG := Lib.hid hg; have HRP := Lib.hid hg.rp; have HRI := Lib.hid hg.ri; clear hcell
  obtain ⟨bd1, bd2, bd3⟩ := back_bd g.items a b (Nat.le_of_lt hab)
  obtain ⟨nb1, nb2⟩ := notesR_bd hr a (b - a) (by omega)
  have HNB := Lib.hid (fun k hk => nb2 _ (mem_getD (l := notesR g.items a (b - a)) (k := k) hk))
  have HNS := Lib.hid (fun k hk => nSum_bd hr nb2 k hk)
  have HHT := Lib.hid (fun k hk => hTo_bd hr (frontR g.items a b) k hk)
  have HHS : Hid (∀ k, hTo g.items (frontR g.items a b) (k + 1) = hTo g.items (frontR g.items a b) k + (g.items.getD (frontR g.items a b + k) IT.zero).height) := Lib.hid fun _ => rfl
  have HNX : Hid (∀ k, nSum g.notes (notesR g.items a (b - a)) (k + 1) = nSum g.notes (notesR g.items a (b - a)) k + g.notes.getD ((notesR g.items a (b - a)).getD k 0).toNat 0) := Lib.hid fun _ => rfl
  have HN0 : Hid (nSum g.notes (notesR g.items a (b - a)) 0 = 0) := Lib.hid rfl
  have HH0 : Hid (hTo g.items (frontR g.items a b) 0 = 0) := Lib.hid rfl
  have HIT := Lib.hid (fun k hk => (hr.items k hk).height)
  have HNH := Lib.hid hr.nh
  have HU : Hid (usesR g r a b = hTo g.items (frontR g.items a b) (backR g.items a b - frontR g.items a b) + (if 0 < (notesR g.items a (b - a)).length then r.gap else 0) + nSum g.notes (notesR g.items a (b - a)) (notesR g.items a (b - a)).length) := Lib.hid (by
    rw [hTo_ref g.items a b (Nat.le_of_lt hab)]; rfl)
  obtain ⟨_, ⟨gp1, gp2⟩, _, _⟩ := chkQ_zero hq
  have hnn := hr.notes
  clear nb2 hq hr hg
  generalize usesR g r a b = U at *
  generalize frontR g.items a b = F at *
  generalize backR g.items a b = K at *
  generalize notesR g.items a (b - a) = L at *
  simp only [GT.val, QT.val] at *
  have CC := Lib.hid cC; have CN := Lib.hid cN; clear cC cN
  go_enter Tryz.func21, Tryz.ntmps21
  have HS0 := Lib.hid (B3.start w #[.slice (some ⟨bA, off, none⟩) g.items.length pc, .slice pB g.notes.length pd] #[.int .i64 r.height, .int .i64 r.gap, .int .i64 r.widow, .int .i64 r.orphan] #[.int .i64 (a : Int), .int .i64 (b : Int)])
  obtain ⟨g0, g1, ⟨q0, q1, q2, q3⟩, a0, a1, gl⟩ := HS0.out.at
  go_wp2_with (first | (go_at_call 60; refine Calls.mono (CC.out _ ?_) ?_; (exact HG.out.ext (by repeat (first | exact Ext.refl _ | assumption | refine Ext.alloc ?_ _ | refine Ext.drew ?_ | refine Ext.drewN ?_ _ | (refine Ext.setCell ?_ (by simp <;> omega) _) | refine Ext.trans ?_ (by assumption)))); rintro e w1 ⟨rfl, hb1⟩; have HS1 := Lib.hid (HS0.out.next hb1); clear g0 g1 q0 q1 q2 q3 a0 a1 gl hb1; obtain ⟨g0, g1, ⟨q0, q1, q2, q3⟩, a0, a1, gl⟩ := HS1.out.at))
  go_loopw [9, 10] (fun n i wr => ∃ (j : Nat) (y : Int), F ≤ j ∧ j ≤ K ∧ i = .int .i64 (j : Int) ∧ n = .int .i64 y ∧ Hid (y = hTo g.items F (j - F)) ∧ 0 ≤ y ∧ y ≤ 400000 ∧ Hid (B3 w #[.slice (some ⟨bA, off, none⟩) g.items.length pc, .slice pB g.notes.length pd] #[.int .i64 r.height, .int .i64 r.gap, .int .i64 r.widow, .int .i64 r.orphan] #[.int .i64 (a : Int), .int .i64 (b : Int)] wr)) (fun _ i _ => K - (intOf i).toNat)
  case atStart => exact ⟨F, 0, Nat.le_refl _, bd2, rfl, rfl, Lib.hid (by rw [Nat.sub_self, HH0.out]), by omega, by omega, HS1⟩
  case round =>
    obtain ⟨j, y, hj1, hj2, rfl, rfl, HY, y1, y2, HS⟩ := hrel
    clear HS1 HS0 g0 g1 q0 q1 q2 q3 a0 a1 gl
    obtain ⟨g0, g1, ⟨q0, q1, q2, q3⟩, a0, a1, gl⟩ := HS.out.at
    by_cases hlt : j < K
    case pos =>
      obtain ⟨_, _, he, _, hcell⟩ := (HRP.out.ext HS.out.ext).2.2 (by omega)
      cases he
      have i1 : (j : Int) < (K : Int) := by omega
      have i2 : (j : Int) < (g.items.length : Int) := by omega
      obtain ⟨c0, c1, c2, c3, c4⟩ := hcell j (by omega)
      obtain ⟨x1, x2⟩ := HIT.out j (by omega)
      have HY2 : Hid (y + (g.items.getD j IT.zero).height = hTo g.items F (j + 1 - F)) := Lib.hid (by
        rw [show j + 1 - F = (j - F) + 1 by omega, HHS.out, show F + (j - F) = j by omega, HY.out])
      have hbd := HHT.out (j + 1 - F) (by omega)
      have hsum : y + (g.items.getD j IT.zero).height ≤ 400000 := by rw [HY2.out]; omega
      clear hcell hbd
      generalize (g.items.getD j IT.zero).kind = xk at *
      generalize (g.items.getD j IT.zero).height = xh at *
      generalize (g.items.getD j IT.zero).note = xn at *
      generalize (g.items.getD j IT.zero).line = xl at *
      generalize (g.items.getD j IT.zero).many = xm at *
      go_wp2
      go_roundw
      case rel => exact ⟨j + 1, y + xh, by omega, by omega, by go_num, rfl, HY2, by omega, by omega, Lib.hid (HS.out.next (by repeat (first | exact Ext.refl _ | assumption | refine Ext.alloc ?_ _ | refine Ext.drew ?_ | refine Ext.drewN ?_ _ | (refine Ext.setCell ?_ (by simp <;> omega) _) | refine Ext.trans ?_ (by assumption))))⟩
      case measure => simp [intOf] <;> omega
    case neg =>
      obtain rfl : j = K := by omega
      go_wp2_with (first | (go_at_call 19; refine Calls.mono (CN.out _ ?_) ?_; (exact HG.out.ext (HS.out.ext.trans (by repeat (first | exact Ext.refl _ | assumption | refine Ext.alloc ?_ _ | refine Ext.drew ?_ | refine Ext.drewN ?_ _ | (refine Ext.setCell ?_ (by simp <;> omega) _) | refine Ext.trans ?_ (by assumption))))); rintro e w2 ⟨LA, Lc, rfl, hsl, hb2⟩; have HLI := Lib.hid hsl.ri; have HS2 := Lib.hid (HS.out.next hb2); clear g0 g1 q0 q1 q2 q3 a0 a1 gl hsl hb2; obtain ⟨g0, g1, ⟨q0, q1, q2, q3⟩, a0, a1, gl⟩ := HS2.out.at))
      go_loopw [9, 12] (fun n i wr => ∃ (k : Nat) (z : Int), k ≤ L.length ∧ i = .int .i64 (k : Int) ∧ n = .int .i64 (y + z) ∧ Hid (z = nSum g.notes L k) ∧ 0 ≤ z ∧ z ≤ 400000 ∧ Hid (B3 w #[.slice (some ⟨bA, off, none⟩) g.items.length pc, .slice pB g.notes.length pd] #[.int .i64 r.height, .int .i64 r.gap, .int .i64 r.widow, .int .i64 r.orphan] #[.int .i64 (a : Int), .int .i64 (b : Int)] wr) ∧ Hid (Ext w2 wr)) (fun _ i _ => L.length - (intOf i).toNat)
      case atStart => exact ⟨0, 0, Nat.zero_le _, rfl, by rw [Int.add_zero], Lib.hid HN0.out.symm, by omega, by omega, HS2, Lib.hid (Ext.refl _)⟩
      case round =>
        obtain ⟨k, z, hk, rfl, rfl, HZ, z1, z2, HS3, HX3⟩ := hrel
        clear HS2 g0 g1 q0 q1 q2 q3 a0 a1 gl
        obtain ⟨g0, g1, ⟨q0, q1, q2, q3⟩, a0, a1, gl⟩ := HS3.out.at
        by_cases hlk : k < L.length
        case pos =>
          have i1 : (k : Int) < (L.length : Int) := by omega
          obtain ⟨n1, n2⟩ := HNB.out k hlk
          obtain ⟨m, hm⟩ : ∃ m : Nat, L.getD k 0 = (m : Int) := ⟨(L.getD k 0).toNat, by omega⟩
          obtain ⟨h1, h2⟩ := HNH.out m (by omega)
          have i2 : (m : Int) < (g.notes.length : Int) := by omega
          have HZ2 : Hid (z + g.notes.getD m 0 = nSum g.notes L (k + 1)) := Lib.hid (by rw [HNX.out, hm, Int.toNat_natCast, HZ.out])
          have hbd := HNS.out (k + 1) hlk
          have hsum : z + g.notes.getD m 0 ≤ 400000 := by rw [HZ2.out]; omega
          have HM := Lib.hid hm; have HML : Hid (m < g.notes.length) := Lib.hid (by omega)
          obtain ⟨v, hv⟩ : ∃ v, g.notes.getD m 0 = v := ⟨_, rfl⟩
          have HV := Lib.hid hv
          rw [hv] at h1 h2 hsum HZ2
          have hw9 : IntKind.i64.wrap (y + z + v) = y + (z + v) := by rw [IntWalk.i64_in _ (by omega)]; omega
          obtain ⟨lb, lo, hle, hlb, hlc⟩ := HLI.out.2.2 (by omega)
          obtain ⟨nb, no, rfl, hnb, hnc⟩ := HRI.out.2.2 (by omega)
          have hlc1 := hlc k hlk
          have hnc1 := hnc m HML.out
          rw [hm] at hlc1
          rw [hv] at hnc1
          have HLC := Lib.hid hlc1; have HNC := Lib.hid hnc1; have HLB := Lib.hid hlb; have HNBK := Lib.hid hnb
          clear hlc hnc hlc1 hnc1 hlb hnb hm hv n1 n2 hbd
          subst hle
          go_upto_region 11 with fail
          refine wp_region_steady (Ext _) [?_, ?_, ?_, ?_, ?_, ?_, ?_, ?_, ?_, ?_, ?_] (by kernel_rfl) (by kernel_rfl) rfl (Ext.refl _).drew ?_ ?_
          rotate_left 11
          · refine StepsT.cons (fun W hW => ?_) ?_
            · obtain ⟨g0, g1, ⟨q0, q1, q2, q3⟩, a0, a1, gl⟩ := (HS3.out.next hW).at; have r1 := (((HX3.out.trans hW)).cell (p := ⟨lb, _, none⟩) HLB.out).trans HLC.out; have r2 := ((HS3.out.ext.trans hW).cell (p := ⟨nb, _, none⟩) HNBK.out).trans HNC.out; first | (refine StepT.off rfl hW ?_; rfl) | (refine StepT.go rfl ?_; go_simp; first | (refine ⟨?_, hW⟩; rfl))
            simp only [Act.put, List.setIfInBounds_toArray, List.set_cons_zero, List.set_cons_succ]
            refine StepsT.cons (fun W hW => ?_) ?_
            · obtain ⟨g0, g1, ⟨q0, q1, q2, q3⟩, a0, a1, gl⟩ := (HS3.out.next hW).at; have r1 := (((HX3.out.trans hW)).cell (p := ⟨lb, _, none⟩) HLB.out).trans HLC.out; have r2 := ((HS3.out.ext.trans hW).cell (p := ⟨nb, _, none⟩) HNBK.out).trans HNC.out; first | (refine StepT.off rfl hW ?_; rfl) | (refine StepT.go rfl ?_; go_simp; first | (refine ⟨?_, hW⟩; rfl))
            simp only [Act.put, List.setIfInBounds_toArray, List.set_cons_zero, List.set_cons_succ]
            refine StepsT.cons (fun W hW => ?_) ?_
            · obtain ⟨g0, g1, ⟨q0, q1, q2, q3⟩, a0, a1, gl⟩ := (HS3.out.next hW).at; have r1 := (((HX3.out.trans hW)).cell (p := ⟨lb, _, none⟩) HLB.out).trans HLC.out; have r2 := ((HS3.out.ext.trans hW).cell (p := ⟨nb, _, none⟩) HNBK.out).trans HNC.out; first | (refine StepT.off rfl hW ?_; rfl) | (refine StepT.go rfl ?_; go_simp; first | (refine ⟨?_, hW⟩; rfl))
            simp only [Act.put, List.setIfInBounds_toArray, List.set_cons_zero, List.set_cons_succ]
            refine StepsT.cons (fun W hW => ?_) ?_
            · obtain ⟨g0, g1, ⟨q0, q1, q2, q3⟩, a0, a1, gl⟩ := (HS3.out.next hW).at; have r1 := (((HX3.out.trans hW)).cell (p := ⟨lb, _, none⟩) HLB.out).trans HLC.out; have r2 := ((HS3.out.ext.trans hW).cell (p := ⟨nb, _, none⟩) HNBK.out).trans HNC.out; first | (refine StepT.off rfl hW ?_; rfl) | (refine StepT.go rfl ?_; go_simp; first | (refine ⟨?_, hW⟩; rfl))
            simp only [Act.put, List.setIfInBounds_toArray, List.set_cons_zero, List.set_cons_succ]
            refine StepsT.cons (fun W hW => ?_) ?_
            · obtain ⟨g0, g1, ⟨q0, q1, q2, q3⟩, a0, a1, gl⟩ := (HS3.out.next hW).at; have r1 := (((HX3.out.trans hW)).cell (p := ⟨lb, _, none⟩) HLB.out).trans HLC.out; have r2 := ((HS3.out.ext.trans hW).cell (p := ⟨nb, _, none⟩) HNBK.out).trans HNC.out; first | (refine StepT.off rfl hW ?_; rfl) | (refine StepT.go rfl ?_; go_simp; first | (refine ⟨?_, hW⟩; rfl))
            simp only [Act.put, List.setIfInBounds_toArray, List.set_cons_zero, List.set_cons_succ]
            refine StepsT.cons (fun W hW => ?_) ?_
            · obtain ⟨g0, g1, ⟨q0, q1, q2, q3⟩, a0, a1, gl⟩ := (HS3.out.next hW).at; have r1 := (((HX3.out.trans hW)).cell (p := ⟨lb, _, none⟩) HLB.out).trans HLC.out; have r2 := ((HS3.out.ext.trans hW).cell (p := ⟨nb, _, none⟩) HNBK.out).trans HNC.out; first | (refine StepT.off rfl hW ?_; rfl) | (refine StepT.go rfl ?_; go_simp; first | (refine ⟨?_, hW⟩; rfl))
            simp only [Act.put, List.setIfInBounds_toArray, List.set_cons_zero, List.set_cons_succ]
            refine StepsT.cons (fun W hW => ?_) ?_
            · obtain ⟨g0, g1, ⟨q0, q1, q2, q3⟩, a0, a1, gl⟩ := (HS3.out.next hW).at; have r1 := (((HX3.out.trans hW)).cell (p := ⟨lb, _, none⟩) HLB.out).trans HLC.out; have r2 := ((HS3.out.ext.trans hW).cell (p := ⟨nb, _, none⟩) HNBK.out).trans HNC.out; first | (refine StepT.off rfl hW ?_; rfl) | (refine StepT.go rfl ?_; go_simp; first | (refine ⟨?_, hW⟩; rfl))
            simp only [Act.put, List.setIfInBounds_toArray, List.set_cons_zero, List.set_cons_succ]
            refine StepsT.cons (fun W hW => ?_) ?_
            · obtain ⟨g0, g1, ⟨q0, q1, q2, q3⟩, a0, a1, gl⟩ := (HS3.out.next hW).at; have r1 := (((HX3.out.trans hW)).cell (p := ⟨lb, _, none⟩) HLB.out).trans HLC.out; have r2 := ((HS3.out.ext.trans hW).cell (p := ⟨nb, _, none⟩) HNBK.out).trans HNC.out; first | (refine StepT.off rfl hW ?_; rfl) | (refine StepT.go rfl ?_; go_simp; first | (refine ⟨?_, hW⟩; rfl))
            simp only [Act.put, List.setIfInBounds_toArray, List.set_cons_zero, List.set_cons_succ]
            refine StepsT.cons (fun W hW => ?_) ?_
            · obtain ⟨g0, g1, ⟨q0, q1, q2, q3⟩, a0, a1, gl⟩ := (HS3.out.next hW).at; have r1 := (((HX3.out.trans hW)).cell (p := ⟨lb, _, none⟩) HLB.out).trans HLC.out; have r2 := ((HS3.out.ext.trans hW).cell (p := ⟨nb, _, none⟩) HNBK.out).trans HNC.out; first | (refine StepT.off rfl hW ?_; rfl) | (refine StepT.go rfl ?_; go_simp; first | (refine ⟨?_, hW⟩; rfl))
            simp only [Act.put, List.setIfInBounds_toArray, List.set_cons_zero, List.set_cons_succ]
            refine StepsT.cons (fun W hW => ?_) ?_
            · obtain ⟨g0, g1, ⟨q0, q1, q2, q3⟩, a0, a1, gl⟩ := (HS3.out.next hW).at; have r1 := (((HX3.out.trans hW)).cell (p := ⟨lb, _, none⟩) HLB.out).trans HLC.out; have r2 := ((HS3.out.ext.trans hW).cell (p := ⟨nb, _, none⟩) HNBK.out).trans HNC.out; first | (refine StepT.off rfl hW ?_; rfl) | (refine StepT.go rfl ?_; go_simp; first | (refine ⟨?_, hW⟩; rfl))
            simp only [Act.put, List.setIfInBounds_toArray, List.set_cons_zero, List.set_cons_succ]
            refine StepsT.cons (fun W hW => ?_) ?_
            · obtain ⟨g0, g1, ⟨q0, q1, q2, q3⟩, a0, a1, gl⟩ := (HS3.out.next hW).at; have r1 := (((HX3.out.trans hW)).cell (p := ⟨lb, _, none⟩) HLB.out).trans HLC.out; have r2 := ((HS3.out.ext.trans hW).cell (p := ⟨nb, _, none⟩) HNBK.out).trans HNC.out; first | (refine StepT.off rfl hW ?_; rfl) | (refine StepT.go rfl ?_; go_simp; first | (refine ⟨?_, hW⟩; rfl))
            simp only [Act.put, List.setIfInBounds_toArray, List.set_cons_zero, List.set_cons_succ]
            trivial
          intro W hW
          simp only [putAll, Act.put, List.setIfInBounds_toArray, List.set_cons_zero, List.set_cons_succ]
          go_wp2
          go_roundw
          case rel => exact ⟨k + 1, z + v, by omega, by go_num, rfl, HZ2, by omega, by omega, Lib.hid (HS3.out.next hW), Lib.hid (HX3.out.trans hW)⟩
          case measure => simp [intOf]; omega
        case neg =>
          obtain rfl : k = L.length := by omega
          by_cases h0 : 0 < L.length
          case pos =>
            have i1 : (0 : Int) < (L.length : Int) := by omega
            have HUV : Hid (U = y + z + r.gap) := Lib.hid (by rw [HU.out, if_pos h0, ← HY.out, ← HZ.out]; omega)
            clear HU
            go_wp2
            go_ret
            exact Ret.mk' (by rw [HUV.out]; rfl) (HS3.out.ext.trans (by repeat (first | exact Ext.refl _ | assumption | refine Ext.alloc ?_ _ | refine Ext.drew ?_ | refine Ext.drewN ?_ _ | (refine Ext.setCell ?_ (by simp <;> omega) _) | refine Ext.trans ?_ (by assumption))))
          case neg =>
            have i1 : ¬ (0 : Int) < (L.length : Int) := by omega
            have HUV : Hid (U = y + z) := Lib.hid (by rw [HU.out, if_neg h0, ← HY.out, ← HZ.out]; omega)
            clear HU
            go_wp2
            go_ret
            exact Ret.mk' (by rw [HUV.out]; rfl) (HS3.out.ext.trans (by repeat (first | exact Ext.refl _ | assumption | refine Ext.alloc ?_ _ | refine Ext.drew ?_ | refine Ext.drewN ?_ _ | (refine Ext.setCell ?_ (by simp <;> omega) _) | refine Ext.trans ?_ (by assumption))))
end Go.Proofs.YtpkmapngdkkglaaGreatDoor
