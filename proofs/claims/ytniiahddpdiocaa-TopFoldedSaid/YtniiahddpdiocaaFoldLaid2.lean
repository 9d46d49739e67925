/-
  Walk: laid.
-/
import Derived.Test.YtniiahddpdiocaaFoldLaid
namespace Go.Proofs.Ytniiahddpdiocaa
open Go.RowKit

/-- The value of put as it is held. -/
abbrev putV (bb fb gb sb rb : Nat) : Value := .func (.func 90) #[] #[.pointer (some ⟨bb, 0, none⟩), .pointer (some ⟨fb, 0, none⟩), .pointer (some ⟨gb, 0, none⟩), .pointer (some ⟨sb, 0, none⟩), .pointer (some ⟨rb, 0, none⟩)]
set_option maxRecDepth 100000 in
theorem swap_any (bb fb gb sb rb hb : Nat) (T : TypeId) (c r : Nat) (l : List Lf) (W : World) (h : Blk W hb T #[putV bb fb gb sb rb])
    (hp : ∀ W' : World, Ext W W' → Calls Try.prog 90 #[.int .i64 (r : Int), .int .i64 (c : Int), .pointer (some ⟨bb, 0, none⟩), .pointer (some ⟨fb, 0, none⟩), .pointer (some ⟨gb, 0, none⟩), .pointer (some ⟨sb, 0, none⟩), .pointer (some ⟨rb, 0, none⟩)] W' (RetLf l W')) :
    Calls Try.prog 92 #[.int .i64 (c : Int), .int .i64 (r : Int), .pointer (some ⟨hb, 0, none⟩)] W (RetLf l W) := by
  have eg : ∀ args w, (callFunc 90 args).run Try.prog w = .ok (.enter 90 args) w := fun _ _ => by kernel_rfl
  obtain ⟨h0, hl⟩ : W.cell? ⟨hb, 0, none⟩ = some (putV bb fb gb sb rb) ∧ hb < W.heap.size := ⟨h.cell 0 _ rfl, h.lt⟩
  have HP := Lib.hid hp
  clear h hp
  go_enter Try.func92, Try.ntmps92
  go_wp2_with (first | (go_at_fn 90; refine Calls.mono (HP.out _ (Ext.refl _)) ?_; rintro e w1 ⟨v, rfl, ho, hx⟩; have HO := Lib.hid ho; have HX := Lib.hid hx; clear ho hx))
  go_ret
  exact ⟨_, rfl, HO.out, HX.out⟩
/-- The world behind laid's first region. -/
abbrev W5 (w : World) (p : Pl) (A : Option Addr) (n d first : Nat) (r b : Bool) : World := ((((w.alloc (.cells #[.int .i64 (p.C : Int), .int .i64 (p.R : Int), .slice A n d] 123)).alloc (.cells #[.int .i64 (first : Int)] 3)).alloc (.cells #[.bool r] 4)).alloc (.cells #[.bool b] 4)).alloc (.cells #[.int .i64 0, .int .i64 0, .slice none 0 0] 123)
structure L5 (w W0 : World) (p : Pl) (A : Option Addr) (n d first : Nat) (r b : Bool) (pb fb rb bb qb : Nat) : Prop where
  ext : Ext w W0
  pp : PB W0 pb p A n d
  ft : Blk W0 fb 3 #[.int .i64 (first : Int)]
  rw_ : Blk W0 rb 4 #[.bool r]
  bk : Blk W0 bb 4 #[.bool b]
  rs : Blk W0 qb 123 #[.int .i64 0, .int .i64 0, .slice none 0 0]
  le : w.heap.size ≤ qb
  lt : qb < W0.heap.size
theorem L5.of (w : World) (p : Pl) (A : Option Addr) (n d first : Nat) (r b : Bool) : L5 w (W5 w p A n d first r b) p A n d first r b w.heap.size (w.heap.size + 1) (w.heap.size + 1 + 1) (w.heap.size + 1 + 1 + 1) (w.heap.size + 1 + 1 + 1 + 1) where
  ext := (by repeat (first | exact Ext.refl _ | assumption | refine Ext.alloc ?_ _ | refine Ext.drew ?_ | refine Ext.drewN ?_ _ | (refine Ext.setCell ?_ (by simp <;> omega) _) | refine Ext.trans ?_ (by assumption)))
  pp := ((((Blk.new _ _ _).alloc _).alloc _).alloc _).alloc _
  ft := (((Blk.new1 _ _ _ _).alloc _).alloc _).alloc _
  rw_ := ((Blk.new2 _ _ _ _ _).alloc _).alloc _
  bk := by
    have h := Blk.new (((w.alloc (.cells #[.int .i64 (p.C : Int), .int .i64 (p.R : Int), .slice A n d] 123)).alloc (.cells #[.int .i64 (first : Int)] 3)).alloc (.cells #[.bool r] 4)) 4 #[.bool b]
    rw [World.size_alloc, World.size_alloc, World.size_alloc] at h
    exact h.alloc _
  rs := by
    have h := Blk.new ((((w.alloc (.cells #[.int .i64 (p.C : Int), .int .i64 (p.R : Int), .slice A n d] 123)).alloc (.cells #[.int .i64 (first : Int)] 3)).alloc (.cells #[.bool r] 4)).alloc (.cells #[.bool b] 4)) 123 #[.int .i64 0, .int .i64 0, .slice none 0 0]
    rw [World.size_alloc, World.size_alloc, World.size_alloc, World.size_alloc] at h
    exact h
  le := by omega
  lt := by simp [W5]
theorem put_len {p : Pl} (ho : OkP p) {first : Nat} (r b : Bool) {x y : Nat} (hf1 : first ≤ if r then p.R else p.C) (h1 : x < first) (h2 : y < if r then p.C else p.R) : (p.put first r b x y).length ≤ 100000 := by
  unfold Pl.put
  obtain ⟨a, ha⟩ : ∃ a, a = if b then first - 1 - x else x := ⟨_, rfl⟩
  have hal : a < first := by
    cases b with
    | true => simp only [if_true] at ha; omega
    | false => simp only [Bool.false_eq_true, if_false] at ha; omega
  simp only [← ha]
  have h3 := (get_ok2 ho r b (x := a) (y := y) (by omega) h2).1
  by_cases h : 2 * first - 1 - a < if r then p.R else p.C
  · rw [if_pos h, List.length_append, turnedP_len]
    have h4 := (get_ok2 ho r b (x := 2 * first - 1 - a) (y := y) h h2).1
    omega
  · rw [if_neg h]; omega
set_option maxRecDepth 100000 in
set_option maxHeartbeats 8000000 in
theorem laid_any (p : Pl) (A : Option Addr) (d first : Nat) (rows : List SLf) (r b : Bool) (w : World) (h : PR w p A rows) (ho : OkP p) (hf1 : first ≤ if r then p.R else p.C) (hf2 : (if r then p.R else p.C) ≤ 2 * first) :
    Calls Try.prog 74 #[plV p A rows.length d, .int .i64 (first : Int), .bool r, .bool b] w (RetPl (laidP p first r b) w) := by
  have mixed : Try.prog.follows .mixedOrders = true := by kernel_rfl
  have hst : ∀ (fn : Fn) (x y : Array Value) (a : Addr) (m : Mode) (w : World), (store a (.func fn x y) m).run Try.prog w = stored Try.prog w a (.func fn x y) m := fun _ _ _ _ _ _ => run_store _ _ _ _ _ rfl
  unfold plV
  go_enter Try.func74, Try.ntmps74
  go_upto_region 1 with fail
  have HL := Lib.hid (L5.of w p A rows.length d first r b)
  generalize w.heap.size + 1 + 1 + 1 + 1 = qb at *
  generalize w.heap.size + 1 + 1 + 1 = bb at *
  generalize w.heap.size + 1 + 1 = rb at *
  generalize w.heap.size + 1 = fb at *
  obtain ⟨pb, hpb⟩ : ∃ pb, w.heap.size = pb := ⟨_, rfl⟩
  obtain ⟨W0, hW0⟩ : ∃ W0, W5 w p A rows.length d first r b = W0 := ⟨_, rfl⟩
  rw [hW0] at HL
  unfold W5 at hW0
  rw [hW0]
  rw [hpb] at HL ⊢
  clear hW0
  obtain ⟨k0, k1, k2, kl⟩ := HL.out.pp.c3
  go_region_o
  obtain ⟨sb, hsb⟩ : ∃ sb, W0.heap.size = sb := ⟨_, rfl⟩
  have hc8 := ho.c8; have hr8 := ho.r8
  cases r
  case false =>
    -- BEGIN A
    have HS1 : Hid (Blk (W0.alloc (.cells #[.int .i64 (p.C : Int)] 3)).drew sb 3 #[.int .i64 (p.C : Int)]) := Lib.hid (by rw [← hsb]; exact (Blk.new W0 _ _).drew)
    have HX1 : Hid (Ext W0 (W0.alloc (.cells #[.int .i64 (p.C : Int)] 3)).drew) := Lib.hid (by repeat (first | exact Ext.refl _ | assumption | refine Ext.alloc ?_ _ | refine Ext.drew ?_ | refine Ext.drewN ?_ _ | (refine Ext.setCell ?_ (by simp <;> omega) _) | refine Ext.trans ?_ (by assumption)))
    have HZ1 : Hid ((W0.alloc (.cells #[.int .i64 (p.C : Int)] 3)).drew.heap.size = sb + 1) := Lib.hid (by rw [← hsb]; exact World.size_alloc _ _)
    generalize (W0.alloc (.cells #[.int .i64 (p.C : Int)] 3)).drew = W1 at *
    rw [hsb]
    obtain ⟨r0, rl⟩ : W1.cell? ⟨rb, 0, none⟩ = some (.bool false) ∧ rb < W1.heap.size := ⟨(HL.out.rw_.ext HX1.out).cell 0 _ rfl, (HL.out.rw_.ext HX1.out).lt⟩
    go_upto_region 6 with fail
    have hz2 := HZ1.out
    rw [hz2]
    obtain ⟨gb, hgb⟩ : ∃ gb, gb = sb + 1 := ⟨_, rfl⟩
    rw [← hgb] at hz2 ⊢
    obtain ⟨hb, hhb⟩ : ∃ hb, hb = gb + 1 := ⟨_, rfl⟩
    rw [← hhb]
    obtain ⟨W3, hW3⟩ : ∃ W3, (W1.alloc (.cells #[getV bb sb rb pb] 147)).alloc (.cells #[putV bb fb gb sb rb] 147) = W3 := ⟨_, rfl⟩
    have hx13 : Ext W1 W3 := by rw [← hW3]; exact ((Ext.refl W1).alloc _).alloc _
    have HGB : Hid (Blk W3 gb 147 #[getV bb sb rb pb]) := Lib.hid (by rw [← hW3, ← hz2]; exact (Blk.new _ _ _).alloc _)
    have HPB : Hid (Blk W3 hb 147 #[putV bb fb gb sb rb]) := Lib.hid (by rw [← hW3, hhb, ← hz2]; exact Blk.new1 _ _ _ _)
    have HX3 := Lib.hid (HX1.out.trans hx13)
    have HC : Hid (LaidC W3 p A rows d first false b pb bb sb rb fb) := Lib.hid ⟨h.ext (HL.out.ext.trans HX3.out), HL.out.pp.ext HX3.out, HL.out.bk.ext HX3.out, HS1.out.ext hx13, HL.out.rw_.ext HX3.out, HL.out.ft.ext HX3.out⟩
    rw [hW3]
    clear hW3 hz2 hhb hgb
    obtain ⟨r0, rl⟩ : W3.cell? ⟨rb, 0, none⟩ = some (.bool false) ∧ rb < W3.heap.size := ⟨HC.out.rw_.cell 0 _ rfl, HC.out.rw_.lt⟩
    obtain ⟨f0, fl⟩ : W3.cell? ⟨fb, 0, none⟩ = some (.int .i64 (first : Int)) ∧ fb < W3.heap.size := ⟨HC.out.ft.cell 0 _ rfl, HC.out.ft.lt⟩
    obtain ⟨p0, pl⟩ : W3.cell? ⟨hb, 0, none⟩ = some (putV bb fb gb sb rb) ∧ hb < W3.heap.size := ⟨HPB.out.cell 0 _ rfl, HPB.out.lt⟩
    have CM := Lib.hid (moved_any 90 #[.pointer (some ⟨bb, 0, none⟩), .pointer (some ⟨fb, 0, none⟩), .pointer (some ⟨gb, 0, none⟩), .pointer (some ⟨sb, 0, none⟩), .pointer (some ⟨rb, 0, none⟩)] (fun _ _ => by kernel_rfl) first p.R (p.put first false b) W3 (by simp only [Bool.false_eq_true, if_false] at hf1; omega) hr8
      (fun c r hc hr => put_len ho false b hf1 hc (by simpa using hr))
      (fun W c r hx hc hr => put_any p A d first rows false b pb bb sb rb fb gb _ c r W (HC.out.ext hx) (HGB.out.ext hx) ho hf1 hf2 hc (by simpa using hr)))
    clear h ho hf1 hf2 hc8 hr8
    -- BEGIN X
    go_wp2_with (first | (go_at_call 83; refine Calls.mono CM.out ?_; rintro e w9 ⟨B, e9, rows9, rfl, hop, hx⟩; have HOP := Lib.hid hop; have HX9 := Lib.hid hx; simp only [plV, mkP]; obtain ⟨r0, r1, r2, rl⟩ := ((HL.out.rs.ext HX3.out).ext HX9.out).c3; have F := ((HL.out.rs.ext HX3.out).ext HX9.out).frozen; clear hop hx))
    have h9 := (HOP.out.mono (base' := qb + 1) (by have := HX3.out.size; have := HL.out.lt; omega)).far3 (p0 := qb) (Nat.lt_succ_self _)
    refine bodyPost_ret (v := plV (laidP p first false b) B rows9.length e9) (by simp [results, Try.results74, go_sem, plV, laidP, mkP, r0, r1, r2]) rfl ⟨B, e9, rows9, rfl, (h9 _ _ _).mono (by have := HL.out.le; omega), setCell3 ((HL.out.ext.trans HX3.out).trans HX9.out) HL.out.le _ _ _⟩
    -- END X
    -- END A
  case true =>
    -- BEGIN B
    have HS1 : Hid (Blk ((W0.alloc (.cells #[.int .i64 (p.C : Int)] 3)).drew.setCell ⟨sb, 0, none⟩ (.int .i64 (p.R : Int))) sb 3 #[.int .i64 (p.R : Int)]) := Lib.hid (by rw [← hsb]; exact ((Blk.new W0 _ _).drew).set_ 0 _)
    have HX1 : Hid (Ext W0 ((W0.alloc (.cells #[.int .i64 (p.C : Int)] 3)).drew.setCell ⟨sb, 0, none⟩ (.int .i64 (p.R : Int)))) := Lib.hid (Ext.setCell (by repeat (first | exact Ext.refl _ | assumption | refine Ext.alloc ?_ _ | refine Ext.drew ?_ | refine Ext.drewN ?_ _ | (refine Ext.setCell ?_ (by simp <;> omega) _) | refine Ext.trans ?_ (by assumption))) (by rw [hsb]; exact Nat.le_refl _) _)
    have HZ1 : Hid (((W0.alloc (.cells #[.int .i64 (p.C : Int)] 3)).drew.setCell ⟨sb, 0, none⟩ (.int .i64 (p.R : Int))).heap.size = sb + 1) := Lib.hid (by rw [← hsb]; simp [World.setCell])
    have HX8 : Hid (Ext W0 (W0.alloc (.cells #[.int .i64 (p.C : Int)] 3)).drew) := Lib.hid (by repeat (first | exact Ext.refl _ | assumption | refine Ext.alloc ?_ _ | refine Ext.drew ?_ | refine Ext.drewN ?_ _ | (refine Ext.setCell ?_ (by simp <;> omega) _) | refine Ext.trans ?_ (by assumption)))
    have HB8 : Hid (Blk (W0.alloc (.cells #[.int .i64 (p.C : Int)] 3)).drew sb 3 #[.int .i64 (p.C : Int)]) := Lib.hid (by rw [← hsb]; exact (Blk.new W0 _ _).drew)
    generalize (W0.alloc (.cells #[.int .i64 (p.C : Int)] 3)).drew = W8 at *
    rw [hsb]
    obtain ⟨r0, rl⟩ : W8.cell? ⟨rb, 0, none⟩ = some (.bool true) ∧ rb < W8.heap.size := ⟨(HL.out.rw_.ext HX8.out).cell 0 _ rfl, (HL.out.rw_.ext HX8.out).lt⟩
    obtain ⟨s0, sl⟩ : W8.cell? ⟨sb, 0, none⟩ = some (.int .i64 (p.C : Int)) ∧ sb < W8.heap.size := ⟨HB8.out.cell 0 _ rfl, HB8.out.lt⟩
    have F8 := HB8.out.frozen
    go_upto_region 4 with fail
    generalize W8.setCell ⟨sb, 0, none⟩ (.int .i64 (p.R : Int)) = W1 at *
    go_upto_region 6 with fail
    have hz2 := HZ1.out
    rw [hz2]
    obtain ⟨gb, hgb⟩ : ∃ gb, gb = sb + 1 := ⟨_, rfl⟩
    rw [← hgb] at hz2 ⊢
    obtain ⟨hb, hhb⟩ : ∃ hb, hb = gb + 1 := ⟨_, rfl⟩
    rw [← hhb]
    obtain ⟨W3, hW3⟩ : ∃ W3, (W1.alloc (.cells #[getV bb sb rb pb] 147)).alloc (.cells #[putV bb fb gb sb rb] 147) = W3 := ⟨_, rfl⟩
    have hx13 : Ext W1 W3 := by rw [← hW3]; exact ((Ext.refl W1).alloc _).alloc _
    have HGB : Hid (Blk W3 gb 147 #[getV bb sb rb pb]) := Lib.hid (by rw [← hW3, ← hz2]; exact (Blk.new _ _ _).alloc _)
    have HPB : Hid (Blk W3 hb 147 #[putV bb fb gb sb rb]) := Lib.hid (by rw [← hW3, hhb, ← hz2]; exact Blk.new1 _ _ _ _)
    have HX3 := Lib.hid (HX1.out.trans hx13)
    have HC : Hid (LaidC W3 p A rows d first true b pb bb sb rb fb) := Lib.hid ⟨h.ext (HL.out.ext.trans HX3.out), HL.out.pp.ext HX3.out, HL.out.bk.ext HX3.out, HS1.out.ext hx13, HL.out.rw_.ext HX3.out, HL.out.ft.ext HX3.out⟩
    rw [hW3]
    clear hW3 hz2 hhb hgb
    obtain ⟨r0, rl⟩ : W3.cell? ⟨rb, 0, none⟩ = some (.bool true) ∧ rb < W3.heap.size := ⟨HC.out.rw_.cell 0 _ rfl, HC.out.rw_.lt⟩
    obtain ⟨f0, fl⟩ : W3.cell? ⟨fb, 0, none⟩ = some (.int .i64 (first : Int)) ∧ fb < W3.heap.size := ⟨HC.out.ft.cell 0 _ rfl, HC.out.ft.lt⟩
    have hf3 : first ≤ p.R := by simpa using hf1
    have hput : ∀ (W' : World) (c r : Nat), Ext W3 W' → c < p.C → r < first → Calls Try.prog 90 #[.int .i64 (r : Int), .int .i64 (c : Int), .pointer (some ⟨bb, 0, none⟩), .pointer (some ⟨fb, 0, none⟩), .pointer (some ⟨gb, 0, none⟩), .pointer (some ⟨sb, 0, none⟩), .pointer (some ⟨rb, 0, none⟩)] W' (RetLf (p.put first true b r c) W') :=
      fun W' c r hx hc hr => put_any p A d first rows true b pb bb sb rb fb gb 147 r c W' (HC.out.ext hx) (HGB.out.ext hx) ho hf1 hf2 hr hc
    have hswp : ∀ (W' : World) (c r : Nat), Ext W3 W' → c < p.C → r < first → Calls Try.prog 92 #[.int .i64 (c : Int), .int .i64 (r : Int), .pointer (some ⟨hb, 0, none⟩)] W' (RetLf (p.put first true b r c) W') :=
      fun W' c r hx hc hr => swap_any bb fb gb sb rb hb 147 c r (p.put first true b r c) W' (HPB.out.ext hx) fun W9 hx9 => hput W9 c r (hx.trans hx9) hc hr
    have CM := Lib.hid (moved_any 92 #[.pointer (some ⟨hb, 0, none⟩)] (fun _ _ => by kernel_rfl) p.C first (fun c r => p.put first true b r c) W3 hc8 (by omega) (fun c r hc hr => put_len ho true b hf1 hr hc) hswp)
    clear hput hswp hf3
    clear h ho hf1 hf2 hc8 hr8
    -- BEGIN Y
    go_wp2_with (first | (go_at_call 83; refine Calls.mono CM.out ?_; rintro e w9 ⟨B, e9, rows9, rfl, hop, hx⟩; have HOP := Lib.hid hop; have HX9 := Lib.hid hx; simp only [plV, mkP]; obtain ⟨r0, r1, r2, rl⟩ := ((HL.out.rs.ext HX3.out).ext HX9.out).c3; have F := ((HL.out.rs.ext HX3.out).ext HX9.out).frozen; clear hop hx))
    have h9 := (HOP.out.mono (base' := qb + 1) (by have := HX3.out.size; have := HL.out.lt; omega)).far3 (p0 := qb) (Nat.lt_succ_self _)
    refine bodyPost_ret (v := plV (laidP p first true b) B rows9.length e9) (by simp [results, Try.results74, go_sem, plV, laidP, mkP, r0, r1, r2]) rfl ⟨B, e9, rows9, rfl, (h9 _ _ _).mono (by have := HL.out.le; omega), setCell3 ((HL.out.ext.trans HX3.out).trans HX9.out) HL.out.le _ _ _⟩
    -- END Y
    -- END B
end Go.Proofs.Ytniiahddpdiocaa
