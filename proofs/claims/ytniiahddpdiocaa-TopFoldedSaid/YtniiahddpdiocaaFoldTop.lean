/-
  The plain memory facts of the law TopFolded: its region that makes a scheme, and its own walk.
-/
import Derived.Test.YtniiahddpdiocaaFoldS6
import Derived.Test.YtniiahddpdiocaaFoldBook
namespace Go.Proofs.Ytniiahddpdiocaa
open Go.RowKit
attribute [local go_sem ↓] Go.wp_at_zero Go.wp_at_succ
attribute [local go_sem] stateAt vu known List.map_cons List.map_nil Option.getD_some

/-- What is known in a region that makes, then stores once (operation st) into what operation al made. -/
structure QK (w0 : World) (n st : Nat) (Pc : Nat → Value → World → Prop) (Pz : Nat → Value → Prop) (al : Nat) (D : Value → World → Prop) (V : Vs) (W : World) : Prop where
  len : V.length = n
  pz : ∀ j x, V.getD j none = some x → Pz j x
  a : V.getD st none = none → Ext w0 W
  pc : ∀ j x, V.getD j none = some x → V.getD st none = none → Pc j x W
  d : ∀ y x, V.getD st none = some y → V.getD al none = some x → D x W
section
variable {w0 W W' : World} {Pc : Nat → Value → World → Prop} {Pz : Nat → Value → Prop} {D : Value → World → Prop} {al st n : Nat} {V : Vs}
theorem QK.start (h : Ext w0 W) : QK w0 n st Pc Pz al D (List.replicate n none) W :=
  ⟨by simp, fun j x e => (by rw [rep_none] at e; cases e), fun _ => h, fun j x e => (by rw [rep_none] at e; cases e), fun y x e => (by rw [rep_none] at e; cases e)⟩
/-- An operation ahead of the store. -/
theorem QK.call (h : QK w0 n st Pc Pz al D V W) (hl : V.getD st none = none) (j : Nat) (hj : j ≠ st) (hj3 : j < n) (hx : Ext W W') (hm : ∀ k x, Pc k x W → Pc k x W') (u : Value) (hz : Pz j u) (hu : Pc j u W') : QK w0 n st Pc Pz al D (V.set j (some u)) W' := by
  refine ⟨by rw [List.length_set]; exact h.len, fun k x e => ?_, fun e => (h.a hl).trans hx, fun k x e e2 => ?_, fun y x e => ?_⟩
  · by_cases hkj : k = j
    · subst hkj
      rw [getD_set_eq (by rw [h.len]; omega)] at e
      cases e; exact hz
    · rw [getD_set_ne hkj] at e; exact h.pz k x e
  · by_cases hkj : k = j
    · subst hkj
      rw [getD_set_eq (by rw [h.len]; omega)] at e
      cases e; exact hu
    · rw [getD_set_ne hkj] at e
      exact hm k x (h.pc k x e hl)
  · rw [getD_set_ne (fun e => hj e.symm), hl] at e; cases e
/-- A plain operation, ahead of the store or behind it. -/
theorem QK.pure (h : QK w0 n st Pc Pz al D V W) (j : Nat) (hj : j ≠ st) (hj2 : j ≠ al) (hj3 : j < n) (u : Value) (hz : Pz j u) (hu : ∀ x W, Pc j x W) : QK w0 n st Pc Pz al D (V.set j (some u)) W := by
  refine ⟨by rw [List.length_set]; exact h.len, fun k x e => ?_, fun e => ?_, fun k x e e2 => ?_, fun y x e e2 => ?_⟩
  · by_cases hkj : k = j
    · subst hkj
      rw [getD_set_eq (by rw [h.len]; omega)] at e
      cases e; exact hz
    · rw [getD_set_ne hkj] at e; exact h.pz k x e
  · rw [getD_set_ne (fun e => hj e.symm)] at e; exact h.a e
  · rw [getD_set_ne (fun e => hj e.symm)] at e2
    by_cases hkj : k = j
    · subst hkj; exact hu _ _
    · rw [getD_set_ne hkj] at e; exact h.pc k x e e2
  · rw [getD_set_ne (fun e => hj e.symm)] at e
    rw [getD_set_ne (fun e => hj2 e.symm)] at e2
    exact h.d y x e e2
theorem QK.store (h : QK w0 n st Pc Pz al D V W) (hs : st < n) (ha : al ≠ st) (x : Value) (hx : V.getD al none = some x) (hd : D x W') (y : Value) (hz : Pz st y) : QK w0 n st Pc Pz al D (V.set st (some y)) W' := by
  have hlt : st < V.length := by rw [h.len]; omega
  refine ⟨by rw [List.length_set]; exact h.len, fun k x e => ?_, fun e => ?_, fun k x e e2 => ?_, fun y x2 e e2 => ?_⟩
  · by_cases hkj : k = st
    · subst hkj
      rw [getD_set_eq hlt] at e
      cases e; exact hz
    · rw [getD_set_ne hkj] at e; exact h.pz k x e
  · rw [getD_set_eq hlt] at e; cases e
  · rw [getD_set_eq hlt] at e2; cases e2
  · rw [getD_set_ne ha, hx] at e2; cases e2; exact hd
end
/-- The scheme's value: of right folds it has the cells of the scheme. -/
def SoG (C R : Int) (fs : List (Int × Int)) (W : World) (c' r' : Int) (A : Option Addr) (n c : Nat) : Prop := GoodF C R fs → c' = C ∧ r' = R ∧ n = R.toNat * C.toNat ∧ W.ownsRow 0 80 4 (.slice A n c) n (clCells (cellsOf C.toNat R.toNat (leavesOf C R fs)))
def SoV (C R : Int) (fs : List (Int × Int)) (W : World) (s : Value) : Prop := ∃ (c' r' : Int) (A : Option Addr) (n c : Nat), s = .agg #[.int .i64 c', .int .i64 r', .slice A n c] ∧ SoG C R fs W c' r' A n c
def SoE (C R : Int) (fs : List (Int × Int)) (x : Value) : Prop := ∃ z : Int, x = .int .i64 z ∧ (GoodF C R fs ↔ z = 0)
theorem SoV.ext {C R : Int} {fs : List (Int × Int)} {W W' : World} {s : Value} (h : SoV C R fs W s) (hx : Ext W W') : SoV C R fs W' s := by
  obtain ⟨c', r', A, n, c, rfl, h⟩ := h
  exact ⟨c', r', A, n, c, rfl, fun g => let ⟨h1, h2, h3, h4⟩ := h g; ⟨h1, h2, h3, own_later h4 hx⟩⟩
theorem RetSo.form {C R : Int} {fs : List (Int × Int)} {w w' : World} {e : Ending} (h : RetSo C R fs w e w') : ∃ s x, e = .returned (.tuple #[s, x]) ∧ SoV C R fs w' s ∧ SoE C R fs x ∧ Ext w w' := by
  rcases h with ⟨hg, A, c, rfl, hr, hx⟩ | ⟨hg, z, hz, rfl, hx⟩
  · exact ⟨_, _, rfl, ⟨C, R, A, _, c, rfl, fun _ => ⟨rfl, rfl, rfl, hr⟩⟩, ⟨0, rfl, ⟨fun _ => rfl, fun _ => hg⟩⟩, hx⟩
  · exact ⟨_, _, rfl, ⟨0, 0, none, 0, 0, rfl, fun g => absurd g hg⟩, ⟨z, rfl, ⟨fun g => absurd g hg, fun e => absurd e hz⟩⟩, hx⟩
def PzT (C R : Int) (B : Option Addr) (d : Nat) (fs : List (Int × Int)) : Nat → Value → Prop
  | 0, x => x = .agg #[.int .i64 C, .int .i64 R]
  | 2, x => x = .slice B fs.length d
  | 4, x => ∃ s y, x = .tuple #[s, y] ∧ SoE C R fs y
  | 5, x => ∃ s y, x = .tuple #[s, y] ∧ SoE C R fs y
  | 7, x => SoE C R fs x
  | 10, x => SoE C R fs x
  | _, _ => True
def PcT (C R : Int) (fs : List (Int × Int)) (base : Nat) : Nat → Value → World → Prop
  | 1, x, W => ∃ g, x = .slice (some ⟨g, 0, none⟩) 0 0 ∧ W.ownsRow base 82 2 x 0 []
  | 3, x, W => ∃ A c, x = .slice A fs.length c ∧ RFo W A fs
  | 4, x, W => ∃ s y, x = .tuple #[s, y] ∧ SoV C R fs W s ∧ SoE C R fs y
  | 5, x, W => ∃ s y, x = .tuple #[s, y] ∧ SoV C R fs W s ∧ SoE C R fs y
  | 6, x, W => SoV C R fs W x
  | 8, x, W => ∃ p, x = .pointer (some ⟨p, 0, none⟩) ∧ base ≤ p ∧ Blk W p 28 #[.int .i64 0, .int .i64 0, .slice none 0 0]
  | _, _, _ => True
theorem PcT.ext {C R : Int} {fs : List (Int × Int)} {base : Nat} {W W' : World} (hx : Ext W W') : ∀ (k : Nat) (x : Value), PcT C R fs base k x W → PcT C R fs base k x W' := by
  intro k x h
  unfold PcT at h ⊢
  split at h
  · obtain ⟨g, h1, h2⟩ := h; exact ⟨g, h1, own_later h2 hx⟩
  · obtain ⟨A, c, h1, h2⟩ := h; exact ⟨A, c, h1, h2.ext hx⟩
  · obtain ⟨s, y, h1, h2, h3⟩ := h; exact ⟨s, y, h1, h2.ext hx, h3⟩
  · obtain ⟨s, y, h1, h2, h3⟩ := h; exact ⟨s, y, h1, h2.ext hx, h3⟩
  · exact SoV.ext h hx
  · obtain ⟨p, h1, h2, h3⟩ := h; exact ⟨p, h1, h2, h3.ext hx⟩
  · trivial
/-- Behind the store: the scheme lies in a block of its own. -/
def DT (C R : Int) (fs : List (Int × Int)) (w0 : World) (x : Value) (W : World) : Prop :=
  ∃ (p : Nat) (c' r' : Int) (A : Option Addr) (n c : Nat), x = .pointer (some ⟨p, 0, none⟩) ∧ Ext w0 W ∧ Blk W p 28 #[.int .i64 c', .int .i64 r', .slice A n c] ∧ SoG C R fs W c' r' A n c
theorem DT.of {C R c' r' : Int} {fs : List (Int × Int)} {w0 W : World} {p n c : Nat} {A : Option Addr} {v0 v1 v2 : Value} (hx : Ext w0 W) (hp : w0.heap.size ≤ p) (hb : Blk W p 28 #[v0, v1, v2]) (hg : SoG C R fs W c' r' A n c) :
    DT C R fs w0 (.pointer (some ⟨p, 0, none⟩)) (((W.setCell ⟨p, 0, none⟩ (.int .i64 c')).setCell ⟨p, 1, none⟩ (.int .i64 r')).setCell ⟨p, 2, none⟩ (.slice A n c)) := by
  refine ⟨p, c', r', A, n, c, rfl, setCell3 hx hp _ _ _, ((hb.set_ 0 _).set_ 1 _).set_ 2 _, fun g => ?_⟩
  obtain ⟨h1, h2, h3, ho⟩ := hg g
  refine ⟨h1, h2, h3, ?_⟩
  have hne : (Value.slice A n c).ownBlock = none ∨ (Value.slice A n c).ownBlock ≠ some p := by
    cases hu : (Value.slice A n c).ownBlock with
    | none => exact .inl rfl
    | some k =>
      refine .inr fun e => ?_
      obtain rfl : k = p := Option.some.inj e
      obtain ⟨c1, b1⟩ := own_is ho hu
      unfold Blk at b1 hb
      rw [hb] at b1
      injection b1 with b1
      injection b1 with _ b1 _
      exact absurd b1 (by decide)
  have st : ∀ (V : World) (i : Nat) (y : Value), V.ownsRow 0 80 4 (.slice A n c) n (clCells (cellsOf C.toNat R.toNat (leavesOf C R fs))) → (V.setCell ⟨p, i, none⟩ y).ownsRow 0 80 4 (.slice A n c) n (clCells (cellsOf C.toNat R.toNat (leavesOf C R fs))) := fun V i y h =>
    World.ownsRow.kept (row := some p) h ⟨rfl, rfl, rfl, by simp [World.setCell], fun k _ hn => Below.heap_setCell V ⟨p, i, none⟩ y k (fun e => hn (by rw [e]))⟩ hne
  exact st _ _ _ (st _ _ _ (st _ _ _ ho))
theorem fo_lit0 (w : World) : (w.alloc (.cells #[] 82)).ownsRow w.heap.size 82 2 (.slice (some ⟨w.heap.size, 0, none⟩) 0 0) 0 [] :=
  World.ownsRow_lit (e := 82) (size := 2) w #[] 0 (Nat.le_refl _) (by unfold maxLen; omega) rfl
/-- Appending to the empty literal slice: all is new. -/
theorem run_cloneC {sl el : TypeId} {size bytes : Nat} {z : Value} (K : Elt sl el size bytes z) {w : World} {base g m c : Nat} {news : List Value} {A : Option Addr} (hown : w.ownsRow base el size (.slice (some ⟨g, 0, none⟩) 0 0) 0 []) (hr : RC w A m size news) (h1 : ∀ u ∈ news, u.oneCell' = true) (hlen : m ≤ 1000000) (hbase : base ≤ w.heap.size) (ty : TypeId) :
    ∃ v' w', (Builtin.append_ #[sl, sl] ty #[.slice (some ⟨g, 0, none⟩) 0 0, .slice A m c]).run Try.prog w = .ok v' w' ∧ w'.ownsRow base el size v' m news ∧ Ext w w' := by
  obtain ⟨i0, hi, hz0, hz1, hz2⟩ := K.parts
  have hle := K.le
  by_cases hm : m = 0
  · subst hm
    have hnn : news = [] := List.eq_nil_of_length_eq_zero (by have := hr.1; simpa using this)
    subst hnn
    refine ⟨.slice (some ⟨g, 0, none⟩) 0 0, w, ?_, hown, Ext.refl w⟩
    rcases A with _ | ad
    · simp [Builtin.append_, run_underlying K.und, sizeOf, typeInfo, hi, Builtin.lenOf, Builtin.firstCells, storeCells]
    · exact run_append_room_cells (P := Try.prog) w sl ty el i0 K.und hi g 0 0 0 ad 0 c [] (by simp) (by simp) (by simp) (by omega) (by simp) (by simp)
  · obtain ⟨b, off, rfl, hb, hc⟩ := hr.2.2 (by omega)
    have hnews : ∀ j u, news[j]? = some u → w.cell? ((⟨b, off, none⟩ : Addr).add j) = some u := fun j u hj => by
      have := hc j u hj
      unfold Addr.add
      by_cases hj0 : j = 0
      · rw [if_pos hj0]; have e : off + j = off := by omega
        rw [e] at this; exact this
      · rw [if_neg hj0]; exact this
    have hb9 : m * bytes ≤ 1000000 * 1000 := Nat.mul_le_mul hlen hle
    have hrun := run_append_grow (P := Try.prog) w sl ty el i0 z K.und hi hz0 ⟨g, 0, none⟩ 0 0 [] (by simp) (by simp) ⟨b, off, none⟩ m c news (by rw [hz1]; exact hr.1) hnews (by omega) (by omega) (growslice_fits (by omega) (by rw [Nat.zero_add, hz2]; omega))
    obtain ⟨v2, w2, hrun2, h2, h3, _⟩ := run_append_own_at (P := Try.prog) w base sl ty el i0 z size bytes K.und hi hz0 hz1 hz2 K.zs K.pos _ 0 [] hown ⟨b, off, none⟩ m c news hr.1 hnews h1 (by unfold maxLen; omega) (by rw [Nat.zero_add]; omega) hbase
    rw [hrun] at hrun2
    injection hrun2 with e1 e2
    rw [Nat.zero_add, List.nil_append] at h2
    refine ⟨v2, w2, by rw [hrun, e1, e2], h2, ?_⟩
    rw [← e2]
    exact ((Ext.refl w).drew).alloc _
theorem StepZ.cloneK {sl el : TypeId} {size bytes : Nat} {z : Value} (Kt : Elt sl el size bytes z) {ops : Array Oper} {Ψ : Value → World → Prop} {a : Act} {o : Oper} {w : World} (hgd : o.guard = none) (s x : Operand) (ho : o.op = .call { callee := .builtin .append, args := #[s, x], argTypes := #[sl, sl] })
    (base g : Nat) (hs : a.eval s = .slice (some ⟨g, 0, none⟩) 0 0) (hown : w.ownsRow base el size (.slice (some ⟨g, 0, none⟩) 0 0) 0 []) (A : Option Addr) (m c : Nat) (news : List Value) (hx : a.eval x = .slice A m c) (hr : RC w A m size news) (h1 : ∀ u ∈ news, u.oneCell' = true) (hlen : m ≤ 1000000) (hbase : base ≤ w.heap.size)
    (h : ∀ v' w', w'.ownsRow base el size v' m news → Ext w w' → Ψ v' w') : StepZ Try.prog ops Ψ a o w := by
  refine StepZ.go (by simp [Region.wanted, hgd]) ?_
  obtain ⟨v', w', hr', h2, h3⟩ := run_cloneC Kt (c := c) hown hr h1 hlen hbase o.type
  unfold execOp
  simp only [ho, resolve, invoke, builtin, Sem.run_bind, Sem.run_pure, Result.andThen_ok, List.map_toArray, List.map_cons, List.map_nil, hs, hx, hr']
  exact h v' w' h2 h3
theorem sg_at {W : World} {A : Option Addr} {Q G N : Nat} (h : RC W A N 2 (sgCells Q G N)) {k : Nat} (hk : k < N) : ∃ b off, A = some ⟨b, off, none⟩ ∧ b < W.heap.size ∧ W.cell? ⟨b, off + k * 2, none⟩ = some (.int .i64 ((1 + k * Q : Nat) : Int)) ∧ W.cell? ⟨b, off + k * 2 + 1, none⟩ = some (.int .i64 ((min ((k + 1) * Q) G : Nat) : Int)) := by
  obtain ⟨b, off, rfl, hb, hc⟩ := h.2.2 (by omega)
  obtain ⟨h0, h1⟩ := sgCells_at Q G N k hk
  exact ⟨b, off, rfl, hb, hc _ _ h0, by rw [Nat.add_assoc]; exact hc _ _ h1⟩
set_option maxRecDepth 100000 in
set_option maxHeartbeats 2000000 in
theorem top_long (C R P : Int) (A : Option Addr) (n c : Nat) (w : World) (hn : 12 < n) :
    Calls Try.prog 3 #[.agg #[.int .i64 C, .int .i64 R], .slice A n c, .int .i64 P] w (Ret (.bool true) w) := by
  have CI := Lib.hid imposed_any
  have i12 : (12 : Int) < (n : Int) := by omega
  have HX0 : Hid (Ext w (w.alloc (.cells #[.int .i64 C, .int .i64 R] 22))) := Lib.hid (by repeat (first | exact Ext.refl _ | assumption | refine Ext.alloc ?_ _ | refine Ext.drew ?_ | refine Ext.drewN ?_ _ | (refine Ext.setCell ?_ (by simp <;> omega) _) | refine Ext.trans ?_ (by assumption)))
  go_enter Try.func3, Try.ntmps3
  go_wp2_with (first | (go_at_call 5; refine Calls.mono (CI.out _) ?_; rintro e w1 ⟨rfl, hx⟩; have HX1 := Lib.hid (HX0.out.trans hx); clear hx))
  go_ret
  exact Ret.mk' rfl HX1.out
set_option maxRecDepth 100000 in
set_option maxHeartbeats 2000000 in
theorem top_pages (C R P : Int) (A : Option Addr) (n c : Nat) (w : World) (hn : ¬ 12 < n) (hP : ¬ (1 ≤ P ∧ P ≤ 300)) :
    Calls Try.prog 3 #[.agg #[.int .i64 C, .int .i64 R], .slice A n c, .int .i64 P] w (Ret (.bool true) w) := by
  have CI := Lib.hid imposed_any
  have CW := Lib.hid fun W => bWi_no P 1 300 W hP
  have i12 : ¬ (12 : Int) < (n : Int) := by omega
  have HX0 : Hid (Ext w (w.alloc (.cells #[.int .i64 C, .int .i64 R] 22))) := Lib.hid (by repeat (first | exact Ext.refl _ | assumption | refine Ext.alloc ?_ _ | refine Ext.drew ?_ | refine Ext.drewN ?_ _ | (refine Ext.setCell ?_ (by simp <;> omega) _) | refine Ext.trans ?_ (by assumption)))
  go_enter Try.func3, Try.ntmps3
  go_wp2_with (first | (go_at_call 5; refine Calls.mono (CI.out _) ?_; rintro e w1 ⟨rfl, hx⟩; have HX1 := Lib.hid (HX0.out.trans hx); clear hx) | (go_at_call 6; refine Calls.mono (CW.out _) ?_; rintro e w1 ⟨rfl, rfl⟩))
  go_ret
  exact Ret.mk' rfl HX1.out
end Go.Proofs.Ytniiahddpdiocaa
