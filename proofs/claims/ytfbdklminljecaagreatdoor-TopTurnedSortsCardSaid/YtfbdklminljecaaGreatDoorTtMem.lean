/-
  Memory of TopTurnedSorts' first loop: lines and needs grow in one statement.
-/
import Derived.Test.YtfbdklminljecaaGreatDoorSteadyR
import Derived.Test.YtfbdklminljecaaGreatDoorColMem
import Derived.Test.YtfbdklminljecaaGreatDoorLnMem
import Derived.Test.YtfbdklminljecaaGreatDoorGF
namespace Go.Proofs.YtfbdklminljecaaGreatDoor
open Go.RowKit

theorem blk_ne {W : World} {g g' : Nat} {t t' : TypeId} {cs cs' : Array Value} (h : Blk W g t cs) (h' : Blk W g' t' cs') (ht : t ≠ t') : g ≠ g' := by
  rintro rfl
  unfold Blk at h h'
  rw [h] at h'
  simp at h'
  exact ht h'.2
theorem blk_grown {W W' : World} {g : Nat} {row : Option Nat} {t : TypeId} {cs : Array Value} (h : Blk W g t cs) (hg : W.grownBy W' row) (hn : row ≠ some g) : Blk W' g t cs := (hg.block g h.lt (fun e => hn e.symm)).trans h
theorem OwnLN.le {W : World} {base : Nat} {v : Value} {ps : List LN} (h : OwnLN W base v ps) {k : Nat} (hk : v.ownBlock = some k) : base ≤ k := by
  rcases h.2 with ⟨h1, h2⟩ | ⟨g, cap, cur, hv, hg, _⟩
  · rw [h1] at hk; cases hk
  · rw [hv] at hk; cases hk; exact hg
theorem OwnL.le {W : World} {base : Nat} {v : Value} {tk : List SI} (h : OwnL W base v tk) {k : Nat} (hk : v.ownBlock = some k) : base ≤ k := by
  rcases h.2 with ⟨h1, h2⟩ | ⟨g, cap, cur, hv, hg, _⟩
  · rw [h1] at hk; cases hk
  · rw [hv] at hk; cases hk; exact hg
theorem kept_ne {W W' : World} {base sz n : Nat} {t : TypeId} {v : Value} {cs : List Value} {row : Option Nat} (h : W.ownsRow base t sz v n cs) (hg : W.grownBy W' row) (hn : ∀ g, row = some g → v.ownBlock ≠ some g) : W'.ownsRow base t sz v n cs :=
  World.ownsRow.kept (row := row) h hg (by
    cases hv : v.ownBlock with
    | none => exact .inl rfl
    | some g => exact .inr (fun e => hn g e.symm hv))
/-- Two slices of the call's own, of different kinds, do not share a block. -/
theorem lnl_ne {W : World} {b b' : Nat} {u v : Value} {ps : List LN} {tk : List SI} (h : OwnLN W b u ps) (h' : OwnL W b' v tk) : ∀ g, u.ownBlock = some g → v.ownBlock ≠ some g := by
  intro g h1 h2
  obtain ⟨c1, b1⟩ := h.blk h1
  obtain ⟨c2, b2⟩ := own_block h' h2
  exact blk_ne b1 b2 (by decide) rfl
theorem lni_ne {W : World} {b b' c : Nat} {u : Value} {A : Option Addr} {zs : List Int} {ps : List LN} (h : OwnLN W b u ps) (h' : SL W b' A c zs) : ∀ g, u.ownBlock = some g → (Value.slice A zs.length c).ownBlock ≠ some g := by
  intro g h1 h2
  obtain ⟨c1, b1⟩ := h.blk h1
  obtain ⟨c2, b2⟩ := own_block h'.own h2
  exact blk_ne b1 b2 (by decide) rfl
structure QX (w : World) (fb : Array Value) (sb : Nat) (s0 vN vL : Value) (lb : Nat) (x : LN) (ps : List LN) (tk : List SI) (s : SI) (v0 v1 v2 v3 v4 v5 v6 v7 v8 v9 v10 v11 : Option Value) (W : World) : Prop where
  ext : Ext w W
  fr : Blk W w.heap.size 24 fb
  rw : ∀ r ∈ tk ++ [s], SL W w.heap.size r.A r.c r.zs ∧ r.zs.length ≤ 1000
  st : v11 = none → Blk W sb 32 #[s0, vN]
  lk : v1 = none → Blk W lb 34 #[.int .i64 x.m, x.s.val]
  o3 : v3 = none → OwnLN W w.heap.size vL ps
  o8 : v8 = none → OwnL W w.heap.size vN tk
  p0 : ∀ v, v0 = some v → v = vL
  p1 : ∀ v, v1 = some v → v = .agg #[.int .i64 x.m, x.s.val]
  p2 : ∀ v, v2 = some v → v3 = none → ∃ g, v = .slice (some ⟨g, 0, none⟩) 1 1 ∧ Blk W g 34 #[.int .i64 x.m, x.s.val]
  p3 : ∀ v, v3 = some v → OwnLN W w.heap.size v (ps ++ [x])
  p4 : ∀ v, v4 = some v → v = .pointer (some ⟨sb, 1, none⟩)
  p5 : ∀ v, v5 = some v → v = vN
  p6 : ∀ v, v6 = some v → v = s.val
  p7 : ∀ v, v7 = some v → v8 = none → ∃ g, v = .slice (some ⟨g, 0, none⟩) 1 1 ∧ Blk W g 25 #[s.val]
  p8 : ∀ v, v8 = some v → OwnL W w.heap.size v (tk ++ [s])
  p9 : ∀ v, v9 = some v → v3 = some v
  p10 : ∀ v, v10 = some v → v = .pointer (some ⟨sb, 1, none⟩)
  d : ∀ v, v11 = some v → ∃ u, v8 = some u ∧ Blk W sb 32 #[s0, u]
  k8 : ∀ v, v8 = some v → v5.isSome = true
section
variable {w W W' : World} {fb : Array Value} {sb lb : Nat} {s0 vN vL : Value} {x : LN} {ps : List LN} {tk : List SI} {s : SI} {v0 v1 v2 v3 v4 v5 v6 v7 v8 v9 v10 v11 : Option Value}
theorem QX.next (h : QX w fb sb s0 vN vL lb x ps tk s v0 v1 v2 v3 v4 v5 v6 v7 v8 v9 v10 v11 W) (hx : Ext W W') : QX w fb sb s0 vN vL lb x ps tk s v0 v1 v2 v3 v4 v5 v6 v7 v8 v9 v10 v11 W' :=
  ⟨h.ext.trans hx, h.fr.ext hx, fun r hr => ⟨(h.rw r hr).1.ext hx, (h.rw r hr).2⟩, fun e => (h.st e).ext hx, fun e => (h.lk e).ext hx, fun e => (h.o3 e).ext hx, fun e => (h.o8 e).ext hx, h.p0, h.p1, fun v e k => let ⟨g, e1, e2⟩ := h.p2 v e k; ⟨g, e1, e2.ext hx⟩, fun v e => (h.p3 v e).ext hx, h.p4, h.p5, h.p6,
    fun v e k => let ⟨g, e1, e2⟩ := h.p7 v e k; ⟨g, e1, e2.ext hx⟩, fun v e => (h.p8 v e).ext hx, h.p9, h.p10, fun v e => let ⟨u, e1, e2⟩ := h.d v e; ⟨u, e1, e2.ext hx⟩, h.k8⟩
theorem QX.e3 {u y : Value} (h : QX w fb sb s0 vN vL lb x ps tk s v0 (some y) v2 none v4 v5 v6 v7 v8 none v10 v11 W) (ho : OwnLN W' w.heap.size u (ps ++ [x])) (hg : W.grownBy W' vL.ownBlock) : QX w fb sb s0 vN vL lb x ps tk s v0 (some y) v2 (some u) v4 v5 v6 v7 v8 none v10 v11 W' := by
  have hown := h.o3 rfl
  have far : ∀ {g : Nat} {t : TypeId} {cs : Array Value}, Blk W g t cs → 34 ≠ t → Blk W' g t cs := fun hb ht => blk_grown hb hg fun e => by
    obtain ⟨c1, b1⟩ := hown.blk e
    exact blk_ne b1 hb ht rfl
  exact ⟨h.ext.grown hg fun k hk => hown.le hk, far h.fr (by decide), fun r hr => ⟨SL.grown (h.rw r hr).1 (by have := (h.rw r hr).2; omega) hg (lni_ne hown (h.rw r hr).1), (h.rw r hr).2⟩, fun e => far (h.st e) (by decide), fun e => (by cases e), fun e => (by cases e),
    fun e => kept_ne (h.o8 e) hg (lnl_ne hown (h.o8 e)), h.p0, h.p1, fun v _ k => (by cases k), fun v e => (by cases e; exact ho), h.p4, h.p5, h.p6, fun v e k => let ⟨g, e1, e2⟩ := h.p7 v e k; ⟨g, e1, far e2 (by decide)⟩, fun v e => kept_ne (h.p8 v e) hg (lnl_ne hown (h.p8 v e)),
    fun v e => (by cases e), h.p10, fun v e => let ⟨u, e1, e2⟩ := h.d v e; ⟨u, e1, far e2 (by decide)⟩, h.k8⟩
theorem QX.e8 {u y : Value} (h : QX w fb sb s0 vN vL lb x ps tk s v0 v1 v2 v3 v4 (some y) v6 v7 none v9 v10 none W) (ho : OwnL W' w.heap.size u (tk ++ [s])) (hg : W.grownBy W' vN.ownBlock) : QX w fb sb s0 vN vL lb x ps tk s v0 v1 v2 v3 v4 (some y) v6 v7 (some u) v9 v10 none W' := by
  have hown := h.o8 rfl
  have far : ∀ {g : Nat} {t : TypeId} {cs : Array Value}, Blk W g t cs → 25 ≠ t → Blk W' g t cs := fun hb ht => blk_grown hb hg fun e => by
    obtain ⟨c1, b1⟩ := own_block hown e
    exact blk_ne b1 hb ht rfl
  exact ⟨h.ext.grown hg fun k hk => hown.le hk, far h.fr (by decide), fun r hr => ⟨SL.grown (h.rw r hr).1 (by have := (h.rw r hr).2; omega) hg (own_ne hown (h.rw r hr).1), (h.rw r hr).2⟩, fun e => far (h.st e) (by decide), fun e => far (h.lk e) (by decide),
    fun e => kept_ne (h.o3 e) hg (fun g h1 h2 => lnl_ne (h.o3 e) hown g h2 h1), fun e => (by cases e), h.p0, h.p1, fun v e k => let ⟨g, e1, e2⟩ := h.p2 v e k; ⟨g, e1, far e2 (by decide)⟩, fun v e => kept_ne (h.p3 v e) hg (fun g h1 h2 => lnl_ne (h.p3 v e) hown g h2 h1),
    h.p4, h.p5, h.p6, fun v _ k => (by cases k), fun v e => (by cases e; exact ho), h.p9, h.p10, fun v e => (by cases e), fun v e => rfl⟩
theorem QX.e0 (h : QX w fb sb s0 vN vL lb x ps tk s none v1 v2 v3 v4 v5 v6 v7 v8 v9 v10 v11 W) : QX w fb sb s0 vN vL lb x ps tk s (some vL) v1 v2 v3 v4 v5 v6 v7 v8 v9 v10 v11 W :=
  ⟨h.ext, h.fr, h.rw, h.st, h.lk, h.o3, h.o8, fun v e => (by cases e; rfl), h.p1, h.p2, h.p3, h.p4, h.p5, h.p6, h.p7, h.p8, h.p9, h.p10, h.d, h.k8⟩
theorem QX.e1 (h : QX w fb sb s0 vN vL lb x ps tk s v0 none v2 v3 v4 v5 v6 v7 v8 v9 v10 v11 W) : QX w fb sb s0 vN vL lb x ps tk s v0 (some (.agg #[.int .i64 x.m, x.s.val])) v2 v3 v4 v5 v6 v7 v8 v9 v10 v11 W :=
  ⟨h.ext, h.fr, h.rw, h.st, fun e => (by cases e), h.o3, h.o8, h.p0, fun v e => (by cases e; rfl), h.p2, h.p3, h.p4, h.p5, h.p6, h.p7, h.p8, h.p9, h.p10, h.d, h.k8⟩
theorem QX.e2 {g : Nat} (h : QX w fb sb s0 vN vL lb x ps tk s v0 v1 none v3 v4 v5 v6 v7 v8 v9 v10 v11 W) (hb : Blk W g 34 #[.int .i64 x.m, x.s.val]) : QX w fb sb s0 vN vL lb x ps tk s v0 v1 (some (.slice (some ⟨g, 0, none⟩) 1 1)) v3 v4 v5 v6 v7 v8 v9 v10 v11 W :=
  ⟨h.ext, h.fr, h.rw, h.st, h.lk, h.o3, h.o8, h.p0, h.p1, fun v e _ => (by cases e; exact ⟨g, rfl, hb⟩), h.p3, h.p4, h.p5, h.p6, h.p7, h.p8, h.p9, h.p10, h.d, h.k8⟩
theorem QX.e4 (h : QX w fb sb s0 vN vL lb x ps tk s v0 v1 v2 v3 none v5 v6 v7 v8 v9 v10 v11 W) : QX w fb sb s0 vN vL lb x ps tk s v0 v1 v2 v3 (some (.pointer (some ⟨sb, 1, none⟩))) v5 v6 v7 v8 v9 v10 v11 W :=
  ⟨h.ext, h.fr, h.rw, h.st, h.lk, h.o3, h.o8, h.p0, h.p1, h.p2, h.p3, fun v e => (by cases e; rfl), h.p5, h.p6, h.p7, h.p8, h.p9, h.p10, h.d, h.k8⟩
theorem QX.e5 (h : QX w fb sb s0 vN vL lb x ps tk s v0 v1 v2 v3 v4 none v6 v7 v8 v9 v10 v11 W) : QX w fb sb s0 vN vL lb x ps tk s v0 v1 v2 v3 v4 (some vN) v6 v7 v8 v9 v10 v11 W :=
  ⟨h.ext, h.fr, h.rw, h.st, h.lk, h.o3, h.o8, h.p0, h.p1, h.p2, h.p3, h.p4, fun v e => (by cases e; rfl), h.p6, h.p7, h.p8, h.p9, h.p10, h.d, fun _ _ => rfl⟩
theorem QX.e6 (h : QX w fb sb s0 vN vL lb x ps tk s v0 v1 v2 v3 v4 v5 none v7 v8 v9 v10 v11 W) : QX w fb sb s0 vN vL lb x ps tk s v0 v1 v2 v3 v4 v5 (some s.val) v7 v8 v9 v10 v11 W :=
  ⟨h.ext, h.fr, h.rw, h.st, h.lk, h.o3, h.o8, h.p0, h.p1, h.p2, h.p3, h.p4, h.p5, fun v e => (by cases e; rfl), h.p7, h.p8, h.p9, h.p10, h.d, h.k8⟩
theorem QX.e7 {g : Nat} (h : QX w fb sb s0 vN vL lb x ps tk s v0 v1 v2 v3 v4 v5 v6 none v8 v9 v10 v11 W) (hb : Blk W g 25 #[s.val]) : QX w fb sb s0 vN vL lb x ps tk s v0 v1 v2 v3 v4 v5 v6 (some (.slice (some ⟨g, 0, none⟩) 1 1)) v8 v9 v10 v11 W :=
  ⟨h.ext, h.fr, h.rw, h.st, h.lk, h.o3, h.o8, h.p0, h.p1, h.p2, h.p3, h.p4, h.p5, h.p6, fun v e _ => (by cases e; exact ⟨g, rfl, hb⟩), h.p8, h.p9, h.p10, h.d, h.k8⟩
theorem QX.e9 {u : Value} (h : QX w fb sb s0 vN vL lb x ps tk s v0 v1 v2 (some u) v4 v5 v6 v7 v8 none v10 v11 W) : QX w fb sb s0 vN vL lb x ps tk s v0 v1 v2 (some u) v4 v5 v6 v7 v8 (some u) v10 v11 W :=
  ⟨h.ext, h.fr, h.rw, h.st, h.lk, h.o3, h.o8, h.p0, h.p1, h.p2, h.p3, h.p4, h.p5, h.p6, h.p7, h.p8, fun v e => (by cases e; rfl), h.p10, h.d, h.k8⟩
theorem QX.e10 (h : QX w fb sb s0 vN vL lb x ps tk s v0 v1 v2 v3 v4 v5 v6 v7 v8 v9 none v11 W) : QX w fb sb s0 vN vL lb x ps tk s v0 v1 v2 v3 v4 v5 v6 v7 v8 v9 (some (.pointer (some ⟨sb, 1, none⟩))) v11 W :=
  ⟨h.ext, h.fr, h.rw, h.st, h.lk, h.o3, h.o8, h.p0, h.p1, h.p2, h.p3, h.p4, h.p5, h.p6, h.p7, h.p8, h.p9, fun v e => (by cases e; rfl), h.d, h.k8⟩
theorem QX.none11 (h : QX w fb sb s0 vN vL lb x ps tk s v0 v1 v2 v3 v4 none v6 v7 v8 v9 v10 v11 W) : v11 = none := by
  cases v11 with
  | none => rfl
  | some v => obtain ⟨u, e, _⟩ := h.d v rfl; have := h.k8 u e; cases this
theorem QX.none11' (h : QX w fb sb s0 vN vL lb x ps tk s v0 v1 v2 v3 v4 v5 v6 v7 none v9 v10 v11 W) : v11 = none := by
  cases v11 with
  | none => rfl
  | some v => obtain ⟨u, e, _⟩ := h.d v rfl; cases e
theorem set_grown (W : World) (p : Addr) (v : Value) : W.grownBy (W.setCell p v) (some p.block) :=
  ⟨rfl, rfl, rfl, by simp [World.setCell], fun k _ hn => Below.heap_setCell W p v k (fun e => hn (by rw [e]))⟩
theorem QX.e11 {u : Value} (h : QX w fb sb s0 vN vL lb x ps tk s v0 v1 v2 v3 v4 v5 v6 v7 (some u) v9 v10 none W) (hle : w.heap.size ≤ sb) : QX w fb sb s0 vN vL lb x ps tk s v0 v1 v2 v3 v4 v5 v6 v7 (some u) v9 v10 (some undef) (W.setCell ⟨sb, 1, none⟩ u) := by
  have hb := h.st rfl
  have hg := set_grown W ⟨sb, 1, none⟩ u
  have far : ∀ {g : Nat} {t : TypeId} {cs : Array Value}, Blk W g t cs → 32 ≠ t → Blk (W.setCell ⟨sb, 1, none⟩ u) g t cs := fun h1 ht => blk_grown h1 hg fun e => by
    injection e with e
    subst e
    exact blk_ne hb h1 ht rfl
  have kln : ∀ {v : Value} {qs : List LN}, OwnLN W w.heap.size v qs → OwnLN (W.setCell ⟨sb, 1, none⟩ u) w.heap.size v qs := fun ho => kept_ne ho hg fun g e h2 => by
    injection e with e
    subst e
    obtain ⟨c1, b1⟩ := ho.blk h2
    exact blk_ne hb b1 (by decide) rfl
  have kl : ∀ {v : Value} {qs : List SI}, OwnL W w.heap.size v qs → OwnL (W.setCell ⟨sb, 1, none⟩ u) w.heap.size v qs := fun ho => kept_ne ho hg fun g e h2 => by
    injection e with e
    subst e
    obtain ⟨c1, b1⟩ := own_block ho h2
    exact blk_ne hb b1 (by decide) rfl
  exact ⟨h.ext.setCell (p := ⟨sb, 1, none⟩) hle u, far h.fr (by decide), fun r hr => ⟨SL.grown (h.rw r hr).1 (by have := (h.rw r hr).2; omega) hg (fun g e h2 => by
    injection e with e
    subst e
    obtain ⟨c1, b1⟩ := own_block (h.rw r hr).1.own h2
    exact blk_ne hb b1 (by decide) rfl), (h.rw r hr).2⟩, fun e => (by cases e), fun e => far (h.lk e) (by decide), fun e => kln (h.o3 e), fun e => kl (h.o8 e), h.p0, h.p1, fun v e k => let ⟨g, e1, e2⟩ := h.p2 v e k; ⟨g, e1, far e2 (by decide)⟩, fun v e => kln (h.p3 v e), h.p4, h.p5, h.p6, fun v e k => let ⟨g, e1, e2⟩ := h.p7 v e k; ⟨g, e1, far e2 (by decide)⟩, fun v e => kl (h.p8 v e), h.p9, h.p10, fun v e => ⟨u, rfl, hb.set_ 1 u⟩, h.k8⟩
def QXl (w : World) (fb : Array Value) (sb : Nat) (s0 vN vL : Value) (lb : Nat) (x : LN) (ps : List LN) (tk : List SI) (s : SI) (V : Vs) (W : World) : Prop :=
  match V with
  | [v0, v1, v2, v3, v4, v5, v6, v7, v8, v9, v10, v11] => QX w fb sb s0 vN vL lb x ps tk s v0 v1 v2 v3 v4 v5 v6 v7 v8 v9 v10 v11 W
  | _ => False
theorem QXl_out (h : QXl w fb sb s0 vN vL lb x ps tk s [v0, v1, v2, v3, v4, v5, v6, v7, v8, v9, v10, v11] W) : QX w fb sb s0 vN vL lb x ps tk s v0 v1 v2 v3 v4 v5 v6 v7 v8 v9 v10 v11 W := h
end
theorem ownL_slice {W : World} {base : Nat} {v : Value} {tk : List SI} (h : OwnL W base v tk) : ∃ A n c, v = .slice A n c := by
  rcases h.2 with ⟨h1, h2⟩ | ⟨g, cap, cur, hv, _⟩
  · exact ⟨none, 0, 0, h1⟩
  · exact ⟨_, _, _, hv⟩
theorem qlen12 {α : Type} {V : List α} (h : V.length = 12) : ∃ a b c d e f g i j k m n, V = [a, b, c, d, e, f, g, i, j, k, m, n] := by
  match V, h with
  | [a, b, c, d, e, f, g, i, j, k, m, n], _ => exact ⟨a, b, c, d, e, f, g, i, j, k, m, n, rfl⟩
theorem StepZ.pushLN {ops : Array Oper} {Ψ : Value → World → Prop} {a : Act} {o : Oper} {w : World} (hgd : o.guard = none) (s x : Operand) (ho : o.op = .call { callee := .builtin .append, args := #[s, x], argTypes := #[30, 30] })
    (base : Nat) (v : Value) (ps : List LN) (hs : a.eval s = v) (hown : OwnLN w base v ps) (g0 : Nat) (z : LN) (hx : a.eval x = .slice (some ⟨g0, 0, none⟩) 1 1) (hb0 : w.cell? ⟨g0, 0, none⟩ = some (.int .i64 z.m)) (hb1 : w.cell? ⟨g0, 1, none⟩ = some z.s.val) (hlen : ps.length ≤ 1000000) (hbase : base ≤ w.heap.size)
    (h : ∀ v' w', OwnLN w' base v' (ps ++ [z]) → w.grownBy w' v.ownBlock → Ψ v' w') : StepZ Tryz.prog ops Ψ a o w := by
  refine StepZ.go (by simp [Region.wanted, hgd]) ?_
  obtain ⟨v', w', hr', h2, h3⟩ := run_pushLN hown hb0 hb1 hlen hbase o.type
  unfold execOp
  simp only [ho, resolve, invoke, builtin, Sem.run_bind, Sem.run_pure, Result.andThen_ok, List.map_toArray, List.map_cons, List.map_nil, hs, hx, hr']
  exact h v' w' h2 h3
theorem StepZ.pushL {ops : Array Oper} {Ψ : Value → World → Prop} {a : Act} {o : Oper} {w : World} (hgd : o.guard = none) (s x : Operand) (ho : o.op = .call { callee := .builtin .append, args := #[s, x], argTypes := #[26, 26] })
    (base : Nat) (v : Value) (tk : List SI) (hs : a.eval s = v) (hown : OwnL w base v tk) (g0 : Nat) (r : SI) (hx : a.eval x = .slice (some ⟨g0, 0, none⟩) 1 1) (hb : w.cell? ⟨g0, 0, none⟩ = some r.val) (hlen : tk.length ≤ 1000000) (hbase : base ≤ w.heap.size)
    (h : ∀ v' w', OwnL w' base v' (tk ++ [r]) → w.grownBy w' v.ownBlock → Ψ v' w') : StepZ Tryz.prog ops Ψ a o w := by
  refine StepZ.go (by simp [Region.wanted, hgd]) ?_
  obtain ⟨v', w', hr', h2, h3⟩ := run_pushL hown hb hlen hbase o.type
  unfold execOp
  simp only [ho, resolve, invoke, builtin, Sem.run_bind, Sem.run_pure, Result.andThen_ok, List.map_toArray, List.map_cons, List.map_nil, hs, hx, hr']
  exact h v' w' h2 h3
theorem list_pushLN {w : World} {ops : Array Oper} {rest : List Oper} {o : Oper} {a : Act} {Q : Exit → Act → World → Prop} (hgd : o.guard = none) (s x : Operand) (ho : o.op = .call { callee := .builtin .append, args := #[s, x], argTypes := #[30, 30] })
    (base : Nat) (v : Value) (ps : List LN) (hs : a.eval s = v) (hown : OwnLN w base v ps) (g0 : Nat) (z : LN) (hx : a.eval x = .slice (some ⟨g0, 0, none⟩) 1 1) (hb0 : w.cell? ⟨g0, 0, none⟩ = some (.int .i64 z.m)) (hb1 : w.cell? ⟨g0, 1, none⟩ = some z.s.val) (hlen : ps.length ≤ 1000000) (hbase : base ≤ w.heap.size)
    (h : ∀ v' w', OwnLN w' base v' (ps ++ [z]) → w.grownBy w' v.ownBlock → wpList Tryz.prog ops Q rest (a.put o.dst v') w') : wpList Tryz.prog ops Q (o :: rest) a w := by
  refine wpList_plain hgd fun K hK => ?_
  obtain ⟨v', w', hr', h2, h3⟩ := run_pushLN hown hb0 hb1 hlen hbase o.type
  unfold Oper.wp execOp
  simp only [ho, resolve, invoke, builtin, Sem.run_bind, Sem.run_pure, Result.andThen_ok, List.map_toArray, List.map_cons, List.map_nil, hs, hx, hr']
  exact hK _ _ (h v' w' h2 h3)
def lnK (rows : List SI) (k : Nat) : List LN := (rows.take k).map fun r => ⟨1000, r⟩
theorem lnK_next {rows : List SI} {k : Nat} (h : k < rows.length) : lnK rows (k + 1) = lnK rows k ++ [⟨1000, rows.getD k SI.none_⟩] := by
  unfold lnK
  rw [List.take_succ_eq_append_getElem h, List.map_append, List.getD_eq_getElem?_getD, List.getElem?_eq_getElem h]; rfl
theorem lnK_len {rows : List SI} {k : Nat} (h : k ≤ rows.length) : (lnK rows k).length = k := by unfold lnK; rw [List.length_map, List.length_take]; omega
/-- What the first loop keeps. -/
structure LpT (w : World) (fb : Array Value) (sb : Nat) (s0 : Value) (n : Nat) (rows : List SI) (k : Nat) (vL vN : Value) (tk : List SI) (W : World) : Prop where
  ext : Ext w W
  fr : Blk W w.heap.size 24 fb
  st : Blk W sb 32 #[s0, vN]
  oL : OwnLN W w.heap.size vL (lnK rows k)
  oN : OwnL W w.heap.size vN tk
  rw : ∀ r ∈ tk, SL W w.heap.size r.A r.c r.zs ∧ r.zs.length ≤ 1000
  ln : tk.length = k
  nd : ∀ i, i < k → (tk.getD i SI.none_).zs = needTo n (rows.getD i SI.none_).zs (rows.getD i SI.none_).zs.length
  good : ∀ i, i < k → (rows.getD i SI.none_).zs.length ≤ 15 ∧ listErr n (rows.getD i SI.none_).zs = 0
theorem LpT.next' {w W W' : World} {fb : Array Value} {sb n k : Nat} {s0 vL vN : Value} {rows tk : List SI} (h : LpT w fb sb s0 n rows k vL vN tk W) (hx : Ext W W') : LpT w fb sb s0 n rows k vL vN tk W' :=
  ⟨h.ext.trans hx, h.fr.ext hx, h.st.ext hx, h.oL.ext hx, h.oN.ext hx, fun r hr => ⟨(h.rw r hr).1.ext hx, (h.rw r hr).2⟩, h.ln, h.nd, h.good⟩
theorem LpT.push {w W W' : World} {fb : Array Value} {sb n k : Nat} {s0 vL vN u3 u8 : Value} {rows tk : List SI} {s : SI} (h : LpT w fb sb s0 n rows k vL vN tk W) (hk : k < rows.length) (hx : Ext w W') (hf : Blk W' w.heap.size 24 fb) (hs : Blk W' sb 32 #[s0, u8])
    (hL : OwnLN W' w.heap.size u3 (lnK rows k ++ [⟨1000, rows.getD k SI.none_⟩])) (hN : OwnL W' w.heap.size u8 (tk ++ [s])) (hr : ∀ r ∈ tk ++ [s], SL W' w.heap.size r.A r.c r.zs ∧ r.zs.length ≤ 1000)
    (hn : s.zs = needTo n (rows.getD k SI.none_).zs (rows.getD k SI.none_).zs.length) (hg : (rows.getD k SI.none_).zs.length ≤ 15 ∧ listErr n (rows.getD k SI.none_).zs = 0) : LpT w fb sb s0 n rows (k + 1) u3 u8 (tk ++ [s]) W' := by
  refine ⟨hx, hf, hs, by rw [lnK_next hk]; exact hL, hN, hr, by rw [List.length_append, h.ln]; rfl, fun i hi => ?_, fun i hi => ?_⟩
  · rcases Nat.lt_or_ge i k with h1 | h1
    · rw [List.getD_eq_getElem?_getD, List.getElem?_append_left (by rw [h.ln]; exact h1), ← List.getD_eq_getElem?_getD]; exact h.nd i h1
    · obtain rfl : i = k := by omega
      rw [List.getD_eq_getElem?_getD, List.getElem?_append_right (by rw [h.ln]; omega), h.ln, Nat.sub_self]; exact hn
  · rcases Nat.lt_or_ge i k with h1 | h1
    · exact h.good i h1
    · obtain rfl : i = k := by omega
      exact hg
theorem lnK_at {rows : List SI} {n k : Nat} (hn : n ≤ rows.length) (hk : k < n) : (lnK rows n).getD k LN.zero = ⟨1000, rows.getD k SI.none_⟩ := by
  unfold lnK
  rw [List.getD_eq_getElem?_getD, List.getElem?_map, List.getElem?_take_of_lt hk, List.getD_eq_getElem?_getD, List.getElem?_eq_getElem (by omega)]; rfl
theorem LpT.lines {w W : World} {fb : Array Value} {sb n : Nat} {s0 vL vN : Value} {rows tk : List SI} {B : Option Addr} (h : LpT w fb sb s0 n rows rows.length vL vN tk W) (hr : RL w B rows.length rows) (hl : rows.length ≤ 1000) :
    ∃ LA lc, vL = .slice LA rows.length lc ∧ RLN W LA (lnK rows rows.length).length (lnK rows rows.length) := by
  have hlen := lnK_len (rows := rows) (Nat.le_refl _)
  obtain ⟨LA, lc, e, hR⟩ := h.oL.form (by omega) fun k hk => by
    rw [hlen] at hk
    rw [lnK_at (Nat.le_refl _) hk]
    exact (hr.2.2.2 k hk).ext h.ext
  refine ⟨LA, lc, by rw [e, hlen], hR⟩
theorem LpT.needs {w W : World} {fb : Array Value} {sb n : Nat} {s0 vL vN : Value} {rows tk : List SI} (h : LpT w fb sb s0 n rows rows.length vL vN tk W) (hl : rows.length ≤ 1000) :
    ∃ NA nc, vN = .slice NA tk.length nc ∧ RL W NA tk.length tk :=
  h.oN.form (by rw [h.ln]; omega) fun s hs => (h.rw s hs).1.ri
end Go.Proofs.YtfbdklminljecaaGreatDoor
