/-
  Walk: moved: a grid of stacks that a function names.
-/
import Derived.Test.YtniiahddpdiocaaFoldPile
namespace Go.Proofs.Ytniiahddpdiocaa
open Go.RowKit
attribute [local go_sem ↓] Go.wp_at_zero Go.wp_at_succ
attribute [local go_sem] stateAt vu known List.map_cons List.map_nil Option.getD_some

theorem StepZ.appendC {sl el : TypeId} {size bytes : Nat} {z : Value} (K : Elt sl el size bytes z) {ops : Array Oper} {Ψ : Value → World → Prop} {a : Act} {o : Oper} {w : World} (hgd : o.guard = none) (s x : Operand) (ho : o.op = .call { callee := .builtin .append, args := #[s, x], argTypes := #[sl, sl] })
    (base n : Nat) (v : Value) (xs : List Value) (hs : a.eval s = v) (hown : w.ownsRow base el size v n xs) (A : Option Addr) (m c : Nat) (news : List Value) (hx : a.eval x = .slice A m c) (hr : RC w A m size news) (h1 : ∀ u ∈ news, u.oneCell' = true) (hlen : n + m ≤ 1000000) (hbase : base ≤ w.heap.size)
    (h : ∀ v' w', w'.ownsRow base el size v' (n + m) (xs ++ news) → w.grownBy w' v.ownBlock → Ψ v' w') : StepZ Try.prog ops Ψ a o w := by
  refine StepZ.go (by simp [Region.wanted, hgd]) ?_
  obtain ⟨v', w', hr', h2, h3⟩ := run_appendC K (c := c) hown hr h1 hlen hbase o.type
  unfold execOp
  simp only [ho, resolve, invoke, builtin, Sem.run_bind, Sem.run_pure, Result.andThen_ok, List.map_toArray, List.map_cons, List.map_nil, hs, hx, hr']
  exact h v' w' h2 h3
theorem qlen10 {α : Type} {V : List α} (h : V.length = 10) : ∃ a b c d e f g i j k, V = [a, b, c, d, e, f, g, i, j, k] := by
  match V, h with
  | [a, b, c, d, e, f, g, i, j, k], _ => exact ⟨a, b, c, d, e, f, g, i, j, k, rfl⟩
/-- What is known in the region that appends a place. -/
structure QM (w : World) (pb C R : Nat) (vv : Value) (rows : List SLf) (c r g : Nat) (lb : Array Value) (l : List Lf) (v0 v1 v2 v3 v4 v5 v6 v7 v8 v9 : Option Value) (W : World) : Prop where
  p0 : ∀ x, v0 = some x → x = .pointer (some ⟨pb, 2, none⟩)
  p1 : ∀ x, v1 = some x → x = vv
  p2 : ∀ x, v2 = some x → x = .func (.func g) #[] lb
  p3 : ∀ x, v3 = some x → x = .int .i64 (c : Int)
  p4 : ∀ x, v4 = some x → x = .int .i64 (r : Int)
  p8 : ∀ x, v8 = some x → x = .pointer (some ⟨pb, 2, none⟩)
  k6 : v6.isSome = true → v5.isSome = true
  k7 : v7.isSome = true → v6.isSome = true ∧ v1.isSome = true
  k9 : v9.isSome = true → v7.isSome = true
  a : v7 = none → Mv w W pb C R vv vv rows
  p5 : ∀ x, v5 = some x → v7 = none → ∃ s : SLf, x = s.val ∧ s.l = l ∧ OLf W (pb + 1) x s.l
  p6 : ∀ x, v6 = some x → v7 = none → ∃ g0 u, x = .slice (some ⟨g0, 0, none⟩) 1 1 ∧ v5 = some u ∧ Blk W g0 86 #[u]
  b : ∀ x, v7 = some x → v9 = none → ∃ s : SLf, s.l = l ∧ Mv w W pb C R vv x (rows ++ [s])
  d : ∀ y, v9 = some y → ∃ x s, s.l = l ∧ v7 = some x ∧ Mv w W pb C R x x (rows ++ [s])
def QMl (w : World) (pb C R : Nat) (vv : Value) (rows : List SLf) (c r g : Nat) (lb : Array Value) (l : List Lf) (V : Vs) (W : World) : Prop :=
  QM w pb C R vv rows c r g lb l (V.getD 0 none) (V.getD 1 none) (V.getD 2 none) (V.getD 3 none) (V.getD 4 none) (V.getD 5 none) (V.getD 6 none) (V.getD 7 none) (V.getD 8 none) (V.getD 9 none) W
section
variable {w W : World} {pb C R c r g : Nat} {vv : Value} {rows : List SLf} {lb : Array Value} {l : List Lf} {v0 v1 v2 v3 v4 v5 v6 v7 v8 v9 : Option Value}
theorem QMl_out (h : QMl w pb C R vv rows c r g lb l [v0, v1, v2, v3, v4, v5, v6, v7, v8, v9] W) : QM w pb C R vv rows c r g lb l v0 v1 v2 v3 v4 v5 v6 v7 v8 v9 W := h
theorem QM.e0 (h : QM w pb C R vv rows c r g lb l none v1 v2 v3 v4 v5 v6 v7 v8 v9 W) : QM w pb C R vv rows c r g lb l (some (.pointer (some ⟨pb, 2, none⟩))) v1 v2 v3 v4 v5 v6 v7 v8 v9 W :=
  { h with p0 := fun x e => by cases e; rfl }
theorem QM.e1 (h : QM w pb C R vv rows c r g lb l v0 none v2 v3 v4 v5 v6 v7 v8 v9 W) : QM w pb C R vv rows c r g lb l v0 (some vv) v2 v3 v4 v5 v6 v7 v8 v9 W :=
  { h with p1 := fun x e => by cases e; rfl, k7 := fun e => ⟨(h.k7 e).1, rfl⟩ }
theorem QM.e2 (h : QM w pb C R vv rows c r g lb l v0 v1 none v3 v4 v5 v6 v7 v8 v9 W) : QM w pb C R vv rows c r g lb l v0 v1 (some (.func (.func g) #[] lb)) v3 v4 v5 v6 v7 v8 v9 W :=
  { h with p2 := fun x e => by cases e; rfl }
theorem QM.e3 (h : QM w pb C R vv rows c r g lb l v0 v1 v2 none v4 v5 v6 v7 v8 v9 W) : QM w pb C R vv rows c r g lb l v0 v1 v2 (some (.int .i64 (c : Int))) v4 v5 v6 v7 v8 v9 W :=
  { h with p3 := fun x e => by cases e; rfl }
theorem QM.e4 (h : QM w pb C R vv rows c r g lb l v0 v1 v2 v3 none v5 v6 v7 v8 v9 W) : QM w pb C R vv rows c r g lb l v0 v1 v2 v3 (some (.int .i64 (r : Int))) v5 v6 v7 v8 v9 W :=
  { h with p4 := fun x e => by cases e; rfl }
theorem QM.e8 (h : QM w pb C R vv rows c r g lb l v0 v1 v2 v3 v4 v5 v6 v7 none v9 W) : QM w pb C R vv rows c r g lb l v0 v1 v2 v3 v4 v5 v6 v7 (some (.pointer (some ⟨pb, 2, none⟩))) v9 W :=
  { h with p8 := fun x e => by cases e; rfl }
theorem none_of {a b : Option Value} (h : a.isSome = true → b.isSome = true) (hb : b = none) : a = none := by
  cases a with
  | none => rfl
  | some x => subst hb; exact absurd (h rfl) (by simp)
/-- Nothing behind the call is carried out. -/
theorem QM.n5 (h : QM w pb C R vv rows c r g lb l v0 v1 v2 v3 v4 none v6 v7 v8 v9 W) : v6 = none ∧ v7 = none ∧ v9 = none := by
  have h6 := none_of h.k6 rfl
  have h7 := none_of (fun e => (h.k7 e).1) h6
  exact ⟨h6, h7, none_of h.k9 h7⟩
theorem QM.n6 (h : QM w pb C R vv rows c r g lb l v0 v1 v2 v3 v4 v5 none v7 v8 v9 W) : v7 = none ∧ v9 = none := by
  have h7 := none_of (fun e => (h.k7 e).1) rfl
  exact ⟨h7, none_of h.k9 h7⟩
theorem QM.e5 (h : QM w pb C R vv rows c r g lb l v0 v1 v2 v3 v4 none none none v8 none W) {W' : World} (hx : Ext W W') {u : Value} (ho : ∃ s : SLf, u = s.val ∧ s.l = l ∧ OLf W' W.heap.size u s.l) : QM w pb C R vv rows c r g lb l v0 v1 v2 v3 v4 (some u) none none v8 none W' :=
  { h with
    k6 := fun e => by cases e
    a := fun e => (h.a e).next hx
    p5 := fun x e _ => by cases e; obtain ⟨s, h1, h2, h3⟩ := ho; exact ⟨s, h1, h2, h3.mono (h.a rfl).blk.lt⟩
    p6 := fun x e => by cases e
    b := fun x e => by cases e
    d := fun y e => by cases e }
theorem QM.e6 {u : Value} (h : QM w pb C R vv rows c r g lb l v0 v1 v2 v3 v4 (some u) none none v8 none W) : QM w pb C R vv rows c r g lb l v0 v1 v2 v3 v4 (some u) (some (.slice (some ⟨W.heap.size, 0, none⟩) 1 1)) none v8 none (W.alloc (.cells #[u] 86)) :=
  { h with
    k6 := fun _ => rfl
    k7 := fun e => by cases e
    a := fun e => (h.a e).next ((Ext.refl W).alloc _)
    p5 := fun x e e7 => by obtain ⟨s, h1, h2, h3⟩ := h.p5 x e e7; exact ⟨s, h1, h2, h3.ext ((Ext.refl W).alloc _)⟩
    p6 := fun x e _ => by cases e; exact ⟨_, _, rfl, rfl, Blk.new _ _ _⟩
    b := fun x e => by cases e
    d := fun y e => by cases e }
theorem QM.e7 {u u6 v' : Value} {W' : World} (h : QM w pb C R vv rows c r g lb l v0 (some vv) v2 v3 v4 (some u) (some u6) none v8 none W)
    (hg : W.grownBy W' vv.ownBlock) (ho : W'.ownsRow (pb + 1) 86 1 v' (rows.length + 1) (rows.map SLf.val ++ [u])) : QM w pb C R vv rows c r g lb l v0 (some vv) v2 v3 v4 (some u) (some u6) (some v') v8 none W' :=
  { h with
    k7 := fun _ => ⟨rfl, rfl⟩
    k9 := fun e => by cases e
    a := fun e => by cases e
    p5 := fun x e e7 => by cases e7
    p6 := fun x e e7 => by cases e7
    b := fun x e _ => by
      cases e
      obtain ⟨s, rfl, h2, h3⟩ := h.p5 u rfl rfl
      exact ⟨s, h2, (h.a rfl).push h3 hg ho⟩
    d := fun y e => by cases e }
theorem QM.e9 {u : Value} (h : QM w pb C R vv rows c r g lb l v0 v1 v2 v3 v4 v5 v6 (some u) v8 none W) (y : Value) : QM w pb C R vv rows c r g lb l v0 v1 v2 v3 v4 v5 v6 (some u) v8 (some y) (W.setCell ⟨pb, 2, none⟩ u) :=
  { h with
    k9 := fun _ => rfl
    a := fun e => by cases e
    p5 := fun x e e7 => by cases e7
    p6 := fun x e e7 => by cases e7
    b := fun x e e9 => by cases e9
    d := fun y e => by
      obtain ⟨s, h1, h2⟩ := h.b u rfl rfl
      exact ⟨u, s, h1, rfl, h2.store⟩ }
end
/-- The first n places of a grid. -/
structure Gd (w wr : World) (pb C R : Nat) (gl : Nat → Nat → List Lf) (n : Nat) (v : Value) (rows : List SLf) : Prop where
  mv : Mv w wr pb C R v v rows
  len : rows.length = n
  ls : rows.map SLf.l = gridL C n gl
theorem Gd.push {w wr w' : World} {pb C R c r : Nat} {gl : Nat → Nat → List Lf} {v v' : Value} {rows : List SLf} {s : SLf} (h : Gd w wr pb C R gl (r * C + c) v rows) (hc : c < C) (hs : s.l = gl c r) (hm : Mv w w' pb C R v' v' (rows ++ [s])) : Gd w w' pb C R gl (r * C + c + 1) v' (rows ++ [s]) :=
  ⟨hm, by rw [List.length_append, h.len]; rfl, by rw [List.map_append, h.ls, gridL_next C r c gl hc, ← hs]; rfl⟩
set_option maxRecDepth 100000 in
set_option maxHeartbeats 8000000 in
theorem moved_any (g : Nat) (lb : Array Value) (eg : ∀ args w, (callFunc g args).run Try.prog w = .ok (.enter g args) w) (C R : Nat) (gl : Nat → Nat → List Lf) (w : World) (hC : C ≤ 8) (hR : R ≤ 8) (hl : ∀ c r, c < C → r < R → (gl c r).length ≤ 100000)
    (hf : ∀ (W : World) (c r : Nat), Ext w W → c < C → r < R → Calls Try.prog g (#[.int .i64 (c : Int), .int .i64 (r : Int)] ++ lb) W (RetLf (gl c r) W)) :
    Calls Try.prog 83 #[.int .i64 (C : Int), .int .i64 (R : Int), .func (.func g) #[] lb] w (RetPl (mkP C R gl) w) := by
  have HF := Lib.hid hf; have HL := Lib.hid hl
  clear hf hl
  have hRC : R * C ≤ 64 := Nat.mul_le_mul hR hC
  have HB0 : Hid (Blk (w.alloc (.cells #[.int .i64 0, .int .i64 0, .slice none 0 0] 123)) w.heap.size 123 #[.int .i64 0, .int .i64 0, .slice none 0 0]) := Lib.hid (Blk.new _ _ _)
  have HX0 : Hid (Ext w (w.alloc (.cells #[.int .i64 0, .int .i64 0, .slice none 0 0] 123))) := Lib.hid (by repeat (first | exact Ext.refl _ | assumption | refine Ext.alloc ?_ _ | refine Ext.drew ?_ | refine Ext.drewN ?_ _ | (refine Ext.setCell ?_ (by simp <;> omega) _) | refine Ext.trans ?_ (by assumption)))
  have HG0 : Hid (Gd (w.alloc (.cells #[.int .i64 0, .int .i64 0, .slice none 0 0] 123)) ((w.alloc (.cells #[.int .i64 0, .int .i64 0, .slice none 0 0] 123)).alloc (.cells #[.int .i64 (C : Int), .int .i64 (R : Int), .slice none 0 0] 123)) (w.heap.size + 1) C R gl (0 * C) (.slice none 0 0) []) := Lib.hid
    ⟨⟨(by repeat (first | exact Ext.refl _ | assumption | refine Ext.alloc ?_ _ | refine Ext.drew ?_ | refine Ext.drewN ?_ _ | (refine Ext.setCell ?_ (by simp <;> omega) _) | refine Ext.trans ?_ (by assumption))), by simp, Blk.new1 _ _ _ _, World.ownsRow_nil _ _ _ _, fun s hs => by cases hs⟩, by simp, by rw [Nat.zero_mul]; rfl⟩
  go_enter Try.func83, Try.ntmps83
  go_wp2
  generalize (w.alloc (.cells #[.int .i64 0, .int .i64 0, .slice none 0 0] 123)) = w0 at *
  generalize (w0.alloc (.cells #[.int .i64 (C : Int), .int .i64 (R : Int), .slice none 0 0] 123)) = w1 at *
  have HPB : Hid (w.heap.size < w.heap.size + 1) := Lib.hid (Nat.lt_succ_self _)
  generalize w.heap.size + 1 = pb at *
  go_loopw [14, 8, 9] (fun v14 _ _ wr => ∃ (r : Nat) (v : Value) (rows : List SLf), r ≤ R ∧ v14 = .int .i64 (r : Int) ∧ Hid (Gd w0 wr pb C R gl (r * C) v rows)) (fun v14 _ _ _ => R - (intOf v14).toNat)
  case atStart => exact ⟨0, _, _, Nat.zero_le _, rfl, HG0⟩
  case round =>
    obtain ⟨r, v, rows, hr, rfl, HG⟩ := hrel
    clear HG0
    by_cases hlt : r < R
    case pos =>
      have ir : (r : Int) < (R : Int) := by omega
      go_wp2
      go_loopw [18, 9] (fun v18 _ wr => ∃ (c : Nat) (v : Value) (rows : List SLf), c ≤ C ∧ v18 = .int .i64 (c : Int) ∧ Hid (Gd w0 wr pb C R gl (r * C + c) v rows)) (fun v18 _ _ => C - (intOf v18).toNat)
      case atStart => exact ⟨0, _, _, Nat.zero_le _, rfl, HG⟩
      case round =>
        clear HG
        obtain ⟨c, v, rows, hc, rfl, HG⟩ := hrel
        by_cases hlc : c < C
        case pos =>
          have ic : (c : Int) < (C : Int) := by omega
          have hgl := grid_lt (C := C) (R := R) hlc hlt
          have hrn : rows.length ≤ 1000 := by have := HG.out.len; omega
          go_wp2
          have HQ0 : Hid (QM w0 pb C R v rows c r g lb (gl c r) none none none none none none none none none none wr.drew) := Lib.hid
            ⟨fun _ e => (by cases e), fun _ e => (by cases e), fun _ e => (by cases e), fun _ e => (by cases e), fun _ e => (by cases e), fun _ e => (by cases e), fun e => (by cases e), fun e => (by cases e), fun e => (by cases e), fun _ => HG.out.mv.next ((Ext.refl wr).drew), fun _ e => (by cases e), fun _ e => (by cases e), fun _ e => (by cases e), fun _ e => (by cases e)⟩
          have HFC := Lib.hid fun (W : World) (hx : Ext w W) => HF.out W c r hx hlc hlt
          have HLC := Lib.hid (HL.out c r hlc hlt)
          have HNX := Lib.hid fun W' v' s (h1 : s.l = gl c r) h2 => Gd.push (w' := W') (v' := v') (s := s) HG.out hlc h1 h2
          generalize gl c r = l at *
          refine wp_region_q (QMl w0 pb C R v rows c r g lb l) (by kernel_rfl) (by kernel_rfl) HQ0.out ⟨?_, ?_, ?_, ?_, ?_, ?_, ?_, ?_, ?_, ?_, trivial⟩ ?_
          · intro V W hl hn hd hX hC; have hq : V.length = 10 := hl; obtain ⟨v0, v1, v2, v3, v4, v5, v6, v7, v8, v9, hV⟩ := qlen10 hq; subst hV; obtain rfl : v0 = none := hn; replace hX := QMl_out hX
            clear hl hd hC hq
            refine StepZ.go rfl ?_
            go_simp
            exact hX.e0
          · intro V W hl hn hd hX hC; have hq : V.length = 10 := hl; obtain ⟨v0, v1, v2, v3, v4, v5, v6, v7, v8, v9, hV⟩ := qlen10 hq; subst hV; obtain rfl : v1 = none := hn; replace hX := QMl_out hX
            have h7 := none_of (fun e => (hX.k7 e).2) rfl
            subst h7
            obtain ⟨k0, k1, k2, kl⟩ := (hX.a rfl).blk.c3
            have g0 : v0.isSome = true := hd 0 (by decide); obtain ⟨u0, rfl⟩ := Option.isSome_iff_exists.1 g0; clear g0; obtain rfl := hX.p0 _ rfl
            clear hl hd hC hq
            refine StepZ.go rfl ?_
            go_simp
            exact hX.e1
          · intro V W hl hn hd hX hC; have hq : V.length = 10 := hl; obtain ⟨v0, v1, v2, v3, v4, v5, v6, v7, v8, v9, hV⟩ := qlen10 hq; subst hV; obtain rfl : v2 = none := hn; replace hX := QMl_out hX
            clear hl hd hC hq
            refine StepZ.go rfl ?_
            go_simp
            exact hX.e2
          · intro V W hl hn hd hX hC; have hq : V.length = 10 := hl; obtain ⟨v0, v1, v2, v3, v4, v5, v6, v7, v8, v9, hV⟩ := qlen10 hq; subst hV; obtain rfl : v3 = none := hn; replace hX := QMl_out hX
            clear hl hd hC hq
            refine StepZ.go rfl ?_
            go_simp
            exact hX.e3
          · intro V W hl hn hd hX hC; have hq : V.length = 10 := hl; obtain ⟨v0, v1, v2, v3, v4, v5, v6, v7, v8, v9, hV⟩ := qlen10 hq; subst hV; obtain rfl : v4 = none := hn; replace hX := QMl_out hX
            clear hl hd hC hq
            refine StepZ.go rfl ?_
            go_simp
            exact hX.e4
          · intro V W hl hn hd hX hC; have hq : V.length = 10 := hl; obtain ⟨v0, v1, v2, v3, v4, v5, v6, v7, v8, v9, hV⟩ := qlen10 hq; subst hV; obtain rfl : v5 = none := hn; replace hX := QMl_out hX
            obtain ⟨h6, h7, h9⟩ := hX.n5
            subst h6 h7 h9
            have g2 : v2.isSome = true := hd 2 (by decide); obtain ⟨u2, rfl⟩ := Option.isSome_iff_exists.1 g2; clear g2; obtain rfl := hX.p2 _ rfl; have g3 : v3.isSome = true := hd 3 (by decide); obtain ⟨u3, rfl⟩ := Option.isSome_iff_exists.1 g3; clear g3; obtain rfl := hX.p3 _ rfl; have g4 : v4.isSome = true := hd 4 (by decide); obtain ⟨u4, rfl⟩ := Option.isSome_iff_exists.1 g4; clear g4; obtain rfl := hX.p4 _ rfl
            clear hl hd hC hq
            refine StepZ.go rfl ?_
            go_simp
            refine Calls.mono (HFC.out _ (HX0.out.trans (hX.a rfl).ext)) ?_
            rintro e w1 ⟨u, rfl, ho, hx⟩
            obtain ⟨A9, c9, rfl, _⟩ := ho.form (by have := HLC.out; omega)
            exact ⟨_, rfl, hX.e5 hx ⟨⟨A9, c9, l⟩, rfl, rfl, ho⟩⟩
          · intro V W hl hn hd hX hC; have hq : V.length = 10 := hl; obtain ⟨v0, v1, v2, v3, v4, v5, v6, v7, v8, v9, hV⟩ := qlen10 hq; subst hV; obtain rfl : v6 = none := hn; replace hX := QMl_out hX
            obtain ⟨h7, h9⟩ := hX.n6
            subst h7 h9
            have g5 : v5.isSome = true := hd 5 (by decide); obtain ⟨u5, rfl⟩ := Option.isSome_iff_exists.1 g5; clear g5
            obtain ⟨⟨sA, sc, sl⟩, hs5, _, _⟩ := hX.p5 _ rfl rfl
            simp only [SLf.val] at hs5
            subst hs5
            clear hl hd hC hq
            refine StepZ.go rfl ?_
            go_simp
            exact hX.e6
          · intro V W hl hn hd hX hC; have hq : V.length = 10 := hl; obtain ⟨v0, v1, v2, v3, v4, v5, v6, v7, v8, v9, hV⟩ := qlen10 hq; subst hV; obtain rfl : v7 = none := hn; replace hX := QMl_out hX
            have g1 : v1.isSome = true := hd 1 (by decide); obtain ⟨u1, rfl⟩ := Option.isSome_iff_exists.1 g1; clear g1; obtain rfl := hX.p1 _ rfl; have g6 : v6.isSome = true := hd 6 (by decide); obtain ⟨u6, rfl⟩ := Option.isSome_iff_exists.1 g6; clear g6
            have h9 := none_of hX.k9 rfl
            subst h9
            obtain ⟨g0, u, rfl, h5, hb⟩ := hX.p6 _ rfl rfl
            subst h5
            obtain ⟨s5, hs5, _, _⟩ := hX.p5 _ rfl rfl
            clear hl hd hC hq
            refine StepZ.appendC stackElt rfl (.tmp 22) (.tmp 27) rfl (pb + 1) rows.length u1 (rows.map SLf.val) ?_ (hX.a rfl).own (some ⟨g0, 0, none⟩) 1 1 [u] ?_ (RC.blk (n := 1) (size := 1) hb rfl (by omega)) (fun x hx => by rw [List.mem_singleton.1 hx, hs5]; rfl) (by omega) (hX.a rfl).blk.lt fun v' w' ho hg => hX.e7 hg ho
            · go_simp
            · go_simp
          · intro V W hl hn hd hX hC; have hq : V.length = 10 := hl; obtain ⟨v0, v1, v2, v3, v4, v5, v6, v7, v8, v9, hV⟩ := qlen10 hq; subst hV; obtain rfl : v8 = none := hn; replace hX := QMl_out hX
            clear hl hd hC hq
            refine StepZ.go rfl ?_
            go_simp
            exact hX.e8
          · intro V W hl hn hd hX hC; have hq : V.length = 10 := hl; obtain ⟨v0, v1, v2, v3, v4, v5, v6, v7, v8, v9, hV⟩ := qlen10 hq; subst hV; obtain rfl : v9 = none := hn; replace hX := QMl_out hX
            have g7 : v7.isSome = true := hd 7 (by decide); obtain ⟨u7, rfl⟩ := Option.isSome_iff_exists.1 g7; clear g7; have g8 : v8.isSome = true := hd 8 (by decide); obtain ⟨u8, rfl⟩ := Option.isSome_iff_exists.1 g8; clear g8; obtain rfl := hX.p8 _ rfl
            obtain ⟨s9, _, hm9⟩ := hX.b _ rfl rfl
            obtain ⟨k0, k1, k2, kl⟩ := hm9.blk.c3
            have F := hm9.blk.frozen 2
            obtain ⟨A9, c9, rfl, _⟩ := own_form hm9.own (by rw [List.length_append, List.length_singleton]; omega)
            generalize (rows ++ [s9]).length = n9 at *
            clear hl hd hC hq hm9
            refine StepZ.go rfl ?_
            go_simp
            exact ⟨rfl, hX.e9 _⟩
          · intro V W hl hV hX
            have hq : V.length = 10 := hl
            obtain ⟨v0, v1, v2, v3, v4, v5, v6, v7, v8, v9, hW⟩ := qlen10 hq
            subst hW
            replace hX := QMl_out hX
            have g9 : v9.isSome = true := hV 9 (by decide)
            obtain ⟨u9, rfl⟩ := Option.isSome_iff_exists.1 g9
            obtain ⟨x, s, hsl, rfl, hm⟩ := hX.d _ rfl
            have HN := Lib.hid (HNX.out _ _ _ hsl hm)
            clear hl hV hq g9 hX hm hsl HG HQ0 HNX
            simp only [putAll, known, List.map_cons, List.map_nil, Act.put, List.setIfInBounds_toArray, List.set_cons_zero, List.set_cons_succ, Option.getD_some]
            go_wp2
            go_roundw
            case rel => exact ⟨c + 1, _, _, by omega, by go_num, HN⟩
            case measure => simp [intOf]; omega
        case neg =>
          obtain rfl : c = C := by omega
          go_wp2
          go_roundw
          case rel => exact ⟨r + 1, v, rows, by omega, by go_num, by rw [Nat.add_mul, Nat.one_mul]; exact HG⟩
          case measure => simp [intOf]; omega
    case neg =>
      obtain rfl : R = r := by omega
      clear hr
      have hRn : rows.length ≤ 1000 := by have := HG.out.len; omega
      obtain ⟨A9, d9, rfl, _⟩ := own_form HG.out.mv.own (by omega)
      obtain ⟨k0, k1, k2, kl⟩ := HG.out.mv.blk.c3
      have HB1 := Lib.hid (HB0.out.ext HG.out.mv.ext)
      obtain ⟨r0, r1, r2, rl⟩ := HB1.out.c3
      have F := HB1.out.frozen
      have iR : ¬ (R : Int) < (R : Int) := by omega
      have HM := Lib.hid HG.out.mv
      have HLS := Lib.hid HG.out.ls
      clear hlt HG
      go_wp2
      have HV := Lib.hid (HX0.out.trans HM.out.ext)
      have hop := ((HM.out.opl (mkP C R gl) HLS.out).mono (base' := w.heap.size + 1) (by have := HPB.out; omega))
      refine bodyPost_ret (v := plV (mkP C R gl) A9 rows.length d9) (by simp [results, Try.results83, go_sem, plV, mkP, r0, r1, r2]) rfl ⟨A9, d9, rows, rfl, (hop.far3 (Nat.lt_succ_self _) _ _ _).mono (Nat.le_succ _), setCell3 HV.out (Nat.le_refl _) _ _ _⟩
end Go.Proofs.Ytniiahddpdiocaa
