/-
  Walk: SchemeOf.
-/
import Derived.Test.YtniiahddpdiocaaFoldS4
namespace Go.Proofs.Ytniiahddpdiocaa
open Go.RowKit
attribute [local go_sem ↓] Go.wp_at_zero Go.wp_at_succ
attribute [local go_sem] stateAt vu known List.map_cons List.map_nil Option.getD_some

theorem cl_zeros : ∀ n : Nat, clCells (List.replicate n Cl.zero) = List.replicate (n * 4) (.int .i64 0)
  | 0 => rfl
  | n + 1 => by
    rw [List.replicate_succ, clCells, cl_zeros n, show (n + 1) * 4 = n * 4 + 1 + 1 + 1 + 1 by omega, List.replicate_succ, List.replicate_succ, List.replicate_succ, List.replicate_succ]
    rfl
theorem made_cl (n : Nat) : (madeCells (Value.agg #[.int .i64 0, .int .i64 0, .int .i64 0, .int .i64 0]).cells (n * 4)).toList = clCells (List.replicate n Cl.zero) := by
  rw [cl_zeros]
  have hc : (Value.agg #[.int .i64 0, .int .i64 0, .int .i64 0, .int .i64 0]).cells = #[.int .i64 0, .int .i64 0, .int .i64 0, .int .i64 0] := rfl
  rw [hc, List.eq_replicate_iff]
  refine ⟨by simp [size_madeCells], fun b hb => ?_⟩
  unfold madeCells at hb
  simp only [Array.toList_map, List.mem_map] at hb
  obtain ⟨i, _, rfl⟩ := hb
  have h4 : (#[(.int .i64 0 : Value), .int .i64 0, .int .i64 0, .int .i64 0] : Array Value).size = 4 := rfl
  rw [h4]
  rcases (by omega : i % 4 = 0 ∨ i % 4 = 1 ∨ i % 4 = 2 ∨ i % 4 = 3) with h | h | h | h <;> rw [h] <;> rfl
theorem StepZ.makeC {sl el : TypeId} {size bytes : Nat} {z : Value} (Kt : Elt sl el size bytes z) {ops : Array Oper} {Ψ : Value → World → Prop} {a : Act} {o : Oper} {w : World} (hgd : o.guard = none) (l c : Operand) (hop : o.op = Op.makeSlice sl l c)
    (n : Nat) (hl : a.eval l = .int .i64 (n : Int)) (hc : a.eval c = .int .i64 (n : Int)) (hn : n ≤ 1000000)
    (h : ∀ w', w'.ownsRow w.heap.size el size (.slice (some ⟨w.heap.size, 0, none⟩) n n) n (madeCells z.cells (n * size)).toList → Ext w w' → Ψ (.slice (some ⟨w.heap.size, 0, none⟩) n n) w') : StepZ Try.prog ops Ψ a o w := by
  obtain ⟨i0, hi, hz0, hz1, hz2⟩ := Kt.parts
  have hle := Kt.le
  have hb : bytes * n ≤ 1000 * 1000000 := Nat.mul_le_mul hle hn
  refine StepZ.go (by simp [Region.wanted, hgd]) ?_
  obtain ⟨w', hrun, r1, r2⟩ := run_make_full (P := Try.prog) w w.heap.size sl el i0 z size Kt.und hi hz0 hz1 .i64 .i64 n (by rw [hz2]; omega) (by unfold maxLen; omega) (Nat.le_refl _)
  simp [execOp, hop, hl, hc, hrun, Result.andThen]
  exact h w' r1 (Ext.grown (Ext.refl _) r2 fun k hk => by cases hk)
theorem qlen13 {α : Type} {V : List α} (h : V.length = 13) : ∃ a0 a1 a2 a3 a4 a5 a6 a7 a8 a9 a10 a11 a12, V = [a0, a1, a2, a3, a4, a5, a6, a7, a8, a9, a10, a11, a12] := by
  match V, h with
  | [a0, a1, a2, a3, a4, a5, a6, a7, a8, a9, a10, a11, a12], _ => exact ⟨a0, a1, a2, a3, a4, a5, a6, a7, a8, a9, a10, a11, a12, rfl⟩
/-- What is known in a region that makes, then stores into what operation al made. -/
structure QH (w0 : World) (Pc : Nat → Value → World → Prop) (D : Value → World → Prop) (cs : List Nat) (al last : Nat) (kv : List Value) (V : Vs) (W : World) : Prop where
  len : V.length = last + 1
  kn : ∀ j x, j ∉ cs → j ≠ last → V.getD j none = some x → x = kv.getD j undef
  a : V.getD last none = none → Ext w0 W
  pc : ∀ j, j ∈ cs → ∀ x, V.getD j none = some x → V.getD last none = none → Pc j x W
  d : ∀ y x, V.getD last none = some y → V.getD al none = some x → D x W
section
variable {w0 W W' : World} {Pc : Nat → Value → World → Prop} {D : Value → World → Prop} {al last : Nat} {cs : List Nat} {kv : List Value} {V : Vs}
theorem QH.start (h : Ext w0 W) : QH w0 Pc D cs al last kv (List.replicate (last + 1) none) W :=
  ⟨by simp, fun j x _ _ e => (by rw [rep_none] at e; cases e), fun _ => h, fun j _ x e => (by rw [rep_none] at e; cases e), fun y x e => (by rw [rep_none] at e; cases e)⟩
theorem QH.known (h : QH w0 Pc D cs al last kv V W) (hl : V.getD last none = none) (j : Nat) (hj : j ∉ cs) (hj2 : j ≠ last) (hj3 : j < last) : QH w0 Pc D cs al last kv (V.set j (some (kv.getD j undef))) W := by
  refine ⟨by rw [List.length_set]; exact h.len, fun k x hk hk2 e => ?_, fun _ => h.a hl, fun k hk x e e2 => ?_, fun y x e => ?_⟩
  · by_cases hkj : k = j
    · subst hkj
      rw [getD_set_eq (by rw [h.len]; omega)] at e
      cases e; rfl
    · rw [getD_set_ne hkj] at e; exact h.kn k x hk hk2 e
  · have hkj : k ≠ j := fun e => hj (e ▸ hk)
    rw [getD_set_ne hkj] at e
    exact h.pc k hk x e hl
  · rw [getD_set_ne (fun e => hj2 e.symm), hl] at e; cases e
theorem QH.call (h : QH w0 Pc D cs al last kv V W) (hl : V.getD last none = none) (j : Nat) (hj : j ∈ cs) (hj3 : j < last) (hx : Ext W W') (hm : ∀ k x, Pc k x W → Pc k x W') (u : Value) (hu : Pc j u W') : QH w0 Pc D cs al last kv (V.set j (some u)) W' := by
  have hj2 : last ≠ j := by omega
  refine ⟨by rw [List.length_set]; exact h.len, fun k x hk hk2 e => ?_, fun e => ?_, fun k hk x e e2 => ?_, fun y x e => ?_⟩
  · have hkj : k ≠ j := fun e => hk (e ▸ hj)
    rw [getD_set_ne hkj] at e; exact h.kn k x hk hk2 e
  · exact (h.a hl).trans hx
  · by_cases hkj : k = j
    · subst hkj
      rw [getD_set_eq (by rw [h.len]; omega)] at e
      cases e; exact hu
    · rw [getD_set_ne hkj] at e
      exact hm k x (h.pc k hk x e hl)
  · rw [getD_set_ne hj2, hl] at e; cases e
theorem QH.store (h : QH w0 Pc D cs al last kv V W) (ha : al < last) (x : Value) (hx : V.getD al none = some x) (hd : D x W') (y : Value) : QH w0 Pc D cs al last kv (V.set last (some y)) W' := by
  have hlt : last < V.length := by rw [h.len]; omega
  refine ⟨by rw [List.length_set]; exact h.len, fun k x hk hk2 e => ?_, fun e => ?_, fun k hk x e e2 => ?_, fun y x2 e e2 => ?_⟩
  · rw [getD_set_ne hk2] at e; exact h.kn k x hk hk2 e
  · rw [getD_set_eq hlt] at e; cases e
  · rw [getD_set_eq hlt] at e2; cases e2
  · rw [getD_set_ne (by omega), hx] at e2; cases e2; exact hd
end
/-- Cells of one's own. -/
def OCl (W : World) (base g : Nat) (cs : List Cl) : Prop := W.ownsRow base 80 4 (.slice (some ⟨g, 0, none⟩) cs.length cs.length) cs.length (clCells cs)
def zs (n : Nat) : List Cl := List.replicate n Cl.zero
theorem zs_len (n : Nat) : (zs n).length = n := by simp [zs]
def sc0 : Array Value := #[.int .i64 0, .int .i64 0, .slice none 0 0]
def PS (base : Nat) (C R : Int) (n : Nat) : Nat → Value → World → Prop
  | 9, x, W => ∃ g, x = .slice (some ⟨g, 0, none⟩) n n ∧ OCl W base g (zs n)
  | 10, x, W => ∃ g, x = .agg #[.int .i64 C, .int .i64 R, .slice (some ⟨g, 0, none⟩) n n] ∧ OCl W base g (zs n)
  | _, x, W => ∃ p, x = .pointer (some ⟨p, 0, none⟩) ∧ base ≤ p ∧ Blk W p 28 #[.int .i64 0, .int .i64 0, .slice none 0 0]
theorem PS.ext {base n : Nat} {C R : Int} {W W' : World} (hx : Ext W W') : ∀ (k : Nat) (x : Value), PS base C R n k x W → PS base C R n k x W' := by
  intro k x h
  unfold PS at h ⊢
  split at h
  · obtain ⟨g, h1, h2⟩ := h; exact ⟨g, h1, own_later h2 hx⟩
  · obtain ⟨g, h1, h2⟩ := h; exact ⟨g, h1, own_later h2 hx⟩
  · obtain ⟨p, h1, h2, h3⟩ := h; exact ⟨p, h1, h2, h3.ext hx⟩
/-- A scheme of one's own that cells are laid into. -/
structure Sl (w W : World) (g p : Nat) (C R : Int) (cs : List Cl) : Prop where
  ext : Ext w W
  gb : w.heap.size ≤ g
  pb : w.heap.size ≤ p
  ne : p ≠ g
  own : OCl W w.heap.size g cs
  blk : Blk W p 28 #[.int .i64 C, .int .i64 R, .slice (some ⟨g, 0, none⟩) cs.length cs.length]
theorem Sl.next {w W W' : World} {g p : Nat} {C R : Int} {cs : List Cl} (h : Sl w W g p C R cs) (hx : Ext W W') : Sl w W' g p C R cs :=
  ⟨h.ext.trans hx, h.gb, h.pb, h.ne, own_later h.own hx, h.blk.ext hx⟩
theorem Sl.lay {w W : World} {g p : Nat} {C R : Int} {cs : List Cl} (h : Sl w W g p C R cs) {k : Nat} (hk : k < cs.length) (x : Cl) :
    Sl w ((((W.setCell ⟨g, k * 4, none⟩ (.int .i64 x.f)).setCell ⟨g, k * 4 + 1, none⟩ (.int .i64 x.ft)).setCell ⟨g, k * 4 + 2, none⟩ (.int .i64 x.b)).setCell ⟨g, k * 4 + 3, none⟩ (.int .i64 x.bt)) g p C R (cs.set k x) := by
  have hne := h.ne
  refine ⟨(((h.ext.setCell (p := ⟨g, k * 4, none⟩) h.gb _).setCell (p := ⟨g, k * 4 + 1, none⟩) h.gb _).setCell (p := ⟨g, k * 4 + 2, none⟩) h.gb _).setCell (p := ⟨g, k * 4 + 3, none⟩) h.gb _, h.gb, h.pb, h.ne, ?_, ?_⟩
  · unfold OCl
    rw [clCells_set cs k x hk, List.length_set]
    exact (World.ownsRow.stored (World.ownsRow.stored (World.ownsRow.stored (World.ownsRow.stored h.own (k * 4) _).1 (k * 4 + 1) _).1 (k * 4 + 2) _).1 (k * 4 + 3) _).1
  · rw [List.length_set]
    exact Blk.far (Blk.far (Blk.far (Blk.far h.blk hne _) hne _) hne _) hne _
theorem own_far {w : World} {base n size g p c : Nat} {e : TypeId} {xs : List Value} (h : w.ownsRow base e size (.slice (some ⟨g, 0, none⟩) n c) n xs) (hp : p ≠ g) (i : Nat) (y : Value) : (w.setCell ⟨p, i, none⟩ y).ownsRow base e size (.slice (some ⟨g, 0, none⟩) n c) n xs := by
  refine World.ownsRow.kept (row := some p) h ⟨rfl, rfl, rfl, by simp [World.setCell], fun k _ hn => Below.heap_setCell w ⟨p, i, none⟩ y k (fun e => hn (by rw [e]))⟩ ?_
  exact .inr fun e => hp (by cases e; rfl)
def DS (w : World) (C R : Int) (n : Nat) (x : Value) (W : World) : Prop := ∃ p g, x = .pointer (some ⟨p, 0, none⟩) ∧ Sl w W g p C R (zs n)
theorem DS.of {w W : World} {C R : Int} {n p g : Nat} {v0 v1 v2 : Value} (hx : Ext w W) (hp : w.heap.size ≤ p) (hb : Blk W p 28 #[v0, v1, v2]) (ho : OCl W w.heap.size g (zs n)) :
    DS w C R n (.pointer (some ⟨p, 0, none⟩)) (((W.setCell ⟨p, 0, none⟩ (.int .i64 C)).setCell ⟨p, 1, none⟩ (.int .i64 R)).setCell ⟨p, 2, none⟩ (.slice (some ⟨g, 0, none⟩) n n)) := by
  have hgb := (ho.lt g rfl).1
  have hne : p ≠ g := fun e => by
    subst e
    rcases ho.2 with ⟨h1, _⟩ | ⟨g', cap, cur, h1, _, h3, _⟩
    · cases h1
    · injection h1 with h1 _ _; injection h1 with h1; injection h1 with h1
      subst h1
      rw [show W.heap[p]? = _ from hb] at h3
      injection h3 with h3; injection h3 with _ h3
      exact absurd h3 (by decide)
  refine ⟨p, g, rfl, setCell3 hx hp _ _ _, hgb, hp, hne, ?_, ?_⟩
  · have h2 := ho
    unfold OCl at h2 ⊢
    rw [zs_len] at h2 ⊢
    exact own_far (own_far (own_far h2 hne 0 _) hne 1 _) hne 2 _
  · rw [zs_len]
    exact ((hb.set_ 0 _).set_ 1 _).set_ 2 _
def RetSo (C R : Int) (fs : List (Int × Int)) (w : World) (e : Ending) (w' : World) : Prop :=
  (GoodF C R fs ∧ ∃ A c, e = .returned (.tuple #[.agg #[.int .i64 C, .int .i64 R, .slice A (R.toNat * C.toNat) c], .int .i64 0]) ∧ w'.ownsRow 0 80 4 (.slice A (R.toNat * C.toNat) c) (R.toNat * C.toNat) (clCells (cellsOf C.toNat R.toNat (leavesOf C R fs))) ∧ Ext w w') ∨
  (¬ GoodF C R fs ∧ ∃ z : Int, z ≠ 0 ∧ e = .returned (.tuple #[.agg #[.int .i64 0, .int .i64 0, .slice none 0 0], .int .i64 z]) ∧ Ext w w')
set_option maxRecDepth 100000 in
set_option maxHeartbeats 8000000 in
theorem schemeOf_ok (C R : Nat) (A : Option Addr) (c : Nat) (fs : List (Int × Int)) (w : World) (h : RFo w A fs) (hI : ∀ k, k < fs.length → I64 (fs.getD k (0, 0)).2) (hl : fs.length ≤ 12) (hg : GoodF (C : Int) (R : Int) fs) :
    Calls Try.prog 7 #[.agg #[.int .i64 (C : Int), .int .i64 (R : Int)], .slice A fs.length c] w (RetSo (C : Int) (R : Int) fs w) := by
  obtain ⟨hon, C', R', e1, e2, c1, c8, r1, r8, hrc⟩ := hg.once
  obtain rfl : C = C' := by omega
  obtain rfl : R = R' := by omega
  rw [Int.toNat_natCast, Int.toNat_natCast] at hon
  have HG := Lib.hid hg
  have HFT := Lib.hid hon.fit
  have hlen := hon.len
  have CF : Hid (∀ W, RFo W A fs → Calls Try.prog 30 #[.agg #[.int .i64 (C : Int), .int .i64 (R : Int)], .slice A fs.length c] W (RetYes (leavesOf (C : Int) (R : Int) fs) W)) := Lib.hid fun W h =>
    (folded_all (C : Int) (R : Int) A c fs W h hI hl).mono fun e w' h9 => by
      rcases h9 with ⟨_, h9⟩ | ⟨h9, _⟩
      · exact h9
      · exact absurd hg h9
  have HF := Lib.hid h
  obtain ⟨n, hn⟩ : ∃ n, n = R * C := ⟨_, rfl⟩
  have HN := Lib.hid hn
  have hn32 : n ≤ 32 := by omega
  have u0 : IntKind.i64.wrap ((C : Int) * (R : Int)) = (n : Int) := by
    rw [Int.mul_comm, ← Int.natCast_mul, hn]; exact IntWalk.i64_in _ (by omega)
  have hll : (leavesOf (C : Int) (R : Int) fs).length ≤ 32 := by omega
  have HLL := Lib.hid hlen
  have HQR : Hid (∀ e w', (∃ A c, e = .returned (.tuple #[.agg #[.int .i64 (C : Int), .int .i64 (R : Int), .slice A n c], .int .i64 0]) ∧ w'.ownsRow 0 80 4 (.slice A n c) n (clCells (cellsTo C n (leavesOf (C : Int) (R : Int) fs) (leavesOf (C : Int) (R : Int) fs).length)) ∧ Ext w w') → RetSo (C : Int) (R : Int) fs w e w') := Lib.hid fun e w' ⟨A, c, h1, h2, h3⟩ => by
    refine .inl ⟨hg, A, c, ?_, ?_, h3⟩
    · rw [Int.toNat_natCast, Int.toNat_natCast, ← hn]; exact h1
    · rw [Int.toNat_natCast, Int.toNat_natCast]; unfold cellsOf; rw [← hn]; exact h2
  rw [← hn] at HFT
  have HSH := Lib.hid ((Blk.new w 22 #[.int .i64 (C : Int), .int .i64 (R : Int)]).alloc (.cells #[.int .i64 0, .int .i64 0, .slice none 0 0] 28))
  have HQB := Lib.hid (Blk.new1 w (.cells #[.int .i64 (C : Int), .int .i64 (R : Int)] 22) 28 #[.int .i64 0, .int .i64 0, .slice none 0 0])
  have HX0 : Hid (Ext w ((w.alloc (.cells #[.int .i64 (C : Int), .int .i64 (R : Int)] 22)).alloc (.cells #[.int .i64 0, .int .i64 0, .slice none 0 0] 28))) := Lib.hid (by repeat (first | exact Ext.refl _ | assumption | refine Ext.alloc ?_ _ | refine Ext.drew ?_ | refine Ext.drewN ?_ _ | (refine Ext.setCell ?_ (by simp <;> omega) _) | refine Ext.trans ?_ (by assumption)))
  have mixed : Try.prog.follows .mixedOrders = true := by kernel_rfl
  clear h hI hg hon hlen e1 e2 hn
  have HC8 := Lib.hid c8
  have HLP : Hid (leavesOf (C : Int) (R : Int) fs = leavesOf (C : Int) (R : Int) fs) := Lib.hid rfl
  generalize leavesOf (C : Int) (R : Int) fs = L at *
  clear HLP
  go_enter Try.func7, Try.ntmps7
  go_upto_region 1 with fail
  generalize ((w.alloc (.cells #[.int .i64 (C : Int), .int .i64 (R : Int)] 22)).alloc (.cells #[.int .i64 0, .int .i64 0, .slice none 0 0] 28)) = w0 at *
  obtain ⟨qb, hqb⟩ : ∃ qb, w.heap.size + 1 = qb := ⟨_, rfl⟩
  rw [hqb] at HQB ⊢
  have HQE : Hid (w.heap.size ≤ qb) := Lib.hid (by omega)
  clear hqb
  obtain ⟨sb, hsb⟩ : ∃ sb, w.heap.size = sb := ⟨_, rfl⟩
  rw [hsb] at HSH ⊢
  have HQS : Hid (sb ≤ qb) := Lib.hid (by have := HQE.out; omega)
  clear hsb
  obtain ⟨k0, k1, _, _, kl⟩ := HSH.out.c2
  go_upto_region 4 with (first | (go_at_call 30; refine Calls.mono (CF.out _ (HF.out.ext HX0.out)) ?_; rintro e w1 ⟨A1, d1, rfl, hlf, hx⟩; have HLF := Lib.hid hlf; have HX1 := Lib.hid hx; clear hlf hx))
  have HQ0 : Hid (QH w1 (PS w1.heap.size C R n) (DS w1 C R n) [9, 10, 11] 11 12 [.pointer (some ⟨sb, 0, none⟩), .int .i64 (C : Int), .pointer (some ⟨sb, 1, none⟩), .int .i64 (R : Int), .pointer (some ⟨sb, 0, none⟩), .int .i64 (C : Int), .pointer (some ⟨sb, 1, none⟩), .int .i64 (R : Int), .int .i64 (n : Int), undef, undef, undef, undef] (List.replicate 13 none) w1.drew) := Lib.hid (QH.start (Ext.refl w1).drew)
  have HSH1 := Lib.hid (HSH.out.ext HX1.out)
  clear HSH
  have HSH := HSH1
  clear HSH1
  refine wp_region_q (QH w1 (PS w1.heap.size C R n) (DS w1 C R n) [9, 10, 11] 11 12 _) (by kernel_rfl) (by kernel_rfl) HQ0.out ⟨?_, ?_, ?_, ?_, ?_, ?_, ?_, ?_, ?_, ?_, ?_, ?_, ?_, trivial⟩ ?_
  · intro V W hl hn hd hX hC; have hq : V.length = 13 := hl; obtain ⟨v0, v1, v2, v3, v4, v5, v6, v7, v8, v9, v10, v11, v12, hV⟩ := qlen13 hq; subst hV; obtain rfl : v0 = none := hn
    have hl9 : v12 = none := none_of (fun e => hC 1 _ rfl (hC 10 _ rfl (hC 12 _ rfl e 10 (by decide)) 1 (by decide)) 0 (by decide)) rfl
    subst hl9
    clear hl hd hC hq
    refine StepZ.go rfl ?_
    go_simp
    exact hX.known rfl 0 (by decide) (by decide) (by decide)
  · intro V W hl hn hd hX hC; have hq : V.length = 13 := hl; obtain ⟨v0, v1, v2, v3, v4, v5, v6, v7, v8, v9, v10, v11, v12, hV⟩ := qlen13 hq; subst hV; obtain rfl : v1 = none := hn
    have hl9 : v12 = none := none_of (fun e => hC 10 _ rfl (hC 12 _ rfl e 10 (by decide)) 1 (by decide)) rfl
    subst hl9
    obtain ⟨k0, k1, _, _, kl⟩ := (HSH.out.ext (hX.a rfl)).c2
    have g0 : v0.isSome = true := hd 0 (by decide); obtain ⟨u0, rfl⟩ := Option.isSome_iff_exists.1 g0; clear g0; obtain rfl := hX.kn 0 _ (by decide) (by decide) rfl
    clear hl hd hC hq
    refine StepZ.go rfl ?_
    go_simp
    exact hX.known rfl 1 (by decide) (by decide) (by decide)
  · intro V W hl hn hd hX hC; have hq : V.length = 13 := hl; obtain ⟨v0, v1, v2, v3, v4, v5, v6, v7, v8, v9, v10, v11, v12, hV⟩ := qlen13 hq; subst hV; obtain rfl : v2 = none := hn
    have hl9 : v12 = none := none_of (fun e => hC 3 _ rfl (hC 10 _ rfl (hC 12 _ rfl e 10 (by decide)) 3 (by decide)) 2 (by decide)) rfl
    subst hl9
    clear hl hd hC hq
    refine StepZ.go rfl ?_
    go_simp
    exact hX.known rfl 2 (by decide) (by decide) (by decide)
  · intro V W hl hn hd hX hC; have hq : V.length = 13 := hl; obtain ⟨v0, v1, v2, v3, v4, v5, v6, v7, v8, v9, v10, v11, v12, hV⟩ := qlen13 hq; subst hV; obtain rfl : v3 = none := hn
    have hl9 : v12 = none := none_of (fun e => hC 10 _ rfl (hC 12 _ rfl e 10 (by decide)) 3 (by decide)) rfl
    subst hl9
    obtain ⟨k0, k1, _, _, kl⟩ := (HSH.out.ext (hX.a rfl)).c2
    have g2 : v2.isSome = true := hd 2 (by decide); obtain ⟨u2, rfl⟩ := Option.isSome_iff_exists.1 g2; clear g2; obtain rfl := hX.kn 2 _ (by decide) (by decide) rfl
    clear hl hd hC hq
    refine StepZ.go rfl ?_
    go_simp
    exact hX.known rfl 3 (by decide) (by decide) (by decide)
  · intro V W hl hn hd hX hC; have hq : V.length = 13 := hl; obtain ⟨v0, v1, v2, v3, v4, v5, v6, v7, v8, v9, v10, v11, v12, hV⟩ := qlen13 hq; subst hV; obtain rfl : v4 = none := hn
    have hl9 : v12 = none := none_of (fun e => hC 5 _ rfl (hC 8 _ rfl (hC 9 _ rfl (hC 10 _ rfl (hC 12 _ rfl e 10 (by decide)) 9 (by decide)) 8 (by decide)) 5 (by decide)) 4 (by decide)) rfl
    subst hl9
    clear hl hd hC hq
    refine StepZ.go rfl ?_
    go_simp
    exact hX.known rfl 4 (by decide) (by decide) (by decide)
  · intro V W hl hn hd hX hC; have hq : V.length = 13 := hl; obtain ⟨v0, v1, v2, v3, v4, v5, v6, v7, v8, v9, v10, v11, v12, hV⟩ := qlen13 hq; subst hV; obtain rfl : v5 = none := hn
    have hl9 : v12 = none := none_of (fun e => hC 8 _ rfl (hC 9 _ rfl (hC 10 _ rfl (hC 12 _ rfl e 10 (by decide)) 9 (by decide)) 8 (by decide)) 5 (by decide)) rfl
    subst hl9
    obtain ⟨k0, k1, _, _, kl⟩ := (HSH.out.ext (hX.a rfl)).c2
    have g4 : v4.isSome = true := hd 4 (by decide); obtain ⟨u4, rfl⟩ := Option.isSome_iff_exists.1 g4; clear g4; obtain rfl := hX.kn 4 _ (by decide) (by decide) rfl
    clear hl hd hC hq
    refine StepZ.go rfl ?_
    go_simp
    exact hX.known rfl 5 (by decide) (by decide) (by decide)
  · intro V W hl hn hd hX hC; have hq : V.length = 13 := hl; obtain ⟨v0, v1, v2, v3, v4, v5, v6, v7, v8, v9, v10, v11, v12, hV⟩ := qlen13 hq; subst hV; obtain rfl : v6 = none := hn
    have hl9 : v12 = none := none_of (fun e => hC 7 _ rfl (hC 8 _ rfl (hC 9 _ rfl (hC 10 _ rfl (hC 12 _ rfl e 10 (by decide)) 9 (by decide)) 8 (by decide)) 7 (by decide)) 6 (by decide)) rfl
    subst hl9
    clear hl hd hC hq
    refine StepZ.go rfl ?_
    go_simp
    exact hX.known rfl 6 (by decide) (by decide) (by decide)
  · intro V W hl hn hd hX hC; have hq : V.length = 13 := hl; obtain ⟨v0, v1, v2, v3, v4, v5, v6, v7, v8, v9, v10, v11, v12, hV⟩ := qlen13 hq; subst hV; obtain rfl : v7 = none := hn
    have hl9 : v12 = none := none_of (fun e => hC 8 _ rfl (hC 9 _ rfl (hC 10 _ rfl (hC 12 _ rfl e 10 (by decide)) 9 (by decide)) 8 (by decide)) 7 (by decide)) rfl
    subst hl9
    obtain ⟨k0, k1, _, _, kl⟩ := (HSH.out.ext (hX.a rfl)).c2
    have g6 : v6.isSome = true := hd 6 (by decide); obtain ⟨u6, rfl⟩ := Option.isSome_iff_exists.1 g6; clear g6; obtain rfl := hX.kn 6 _ (by decide) (by decide) rfl
    clear hl hd hC hq
    refine StepZ.go rfl ?_
    go_simp
    exact hX.known rfl 7 (by decide) (by decide) (by decide)
  · intro V W hl hn hd hX hC; have hq : V.length = 13 := hl; obtain ⟨v0, v1, v2, v3, v4, v5, v6, v7, v8, v9, v10, v11, v12, hV⟩ := qlen13 hq; subst hV; obtain rfl : v8 = none := hn
    have hl9 : v12 = none := none_of (fun e => hC 9 _ rfl (hC 10 _ rfl (hC 12 _ rfl e 10 (by decide)) 9 (by decide)) 8 (by decide)) rfl
    subst hl9
    have g5 : v5.isSome = true := hd 5 (by decide); obtain ⟨u5, rfl⟩ := Option.isSome_iff_exists.1 g5; clear g5; obtain rfl := hX.kn 5 _ (by decide) (by decide) rfl
    have g7 : v7.isSome = true := hd 7 (by decide); obtain ⟨u7, rfl⟩ := Option.isSome_iff_exists.1 g7; clear g7; obtain rfl := hX.kn 7 _ (by decide) (by decide) rfl
    clear hl hd hC hq
    refine StepZ.go rfl ?_
    go_simp
    exact hX.known rfl 8 (by decide) (by decide) (by decide)
  · intro V W hl hn hd hX hC; have hq : V.length = 13 := hl; obtain ⟨v0, v1, v2, v3, v4, v5, v6, v7, v8, v9, v10, v11, v12, hV⟩ := qlen13 hq; subst hV; obtain rfl : v9 = none := hn
    have hl9 : v12 = none := none_of (fun e => hC 10 _ rfl (hC 12 _ rfl e 10 (by decide)) 9 (by decide)) rfl
    subst hl9
    have g8 : v8.isSome = true := hd 8 (by decide); obtain ⟨u8, rfl⟩ := Option.isSome_iff_exists.1 g8; clear g8; obtain rfl := hX.kn 8 _ (by decide) (by decide) rfl
    have hsz := (hX.a rfl).size
    refine StepZ.makeC cellElt rfl (.tmp 32) (.tmp 32) rfl n (by go_simp) (by go_simp) (by omega) ?_
    intro w9 ho hx
    rw [made_cl] at ho
    exact hX.call rfl 9 (by decide) (by decide) hx (PS.ext hx) _ ⟨W.heap.size, rfl, by unfold OCl; rw [zs_len]; exact ho.mono hsz⟩
  · intro V W hl hn hd hX hC; have hq : V.length = 13 := hl; obtain ⟨v0, v1, v2, v3, v4, v5, v6, v7, v8, v9, v10, v11, v12, hV⟩ := qlen13 hq; subst hV; obtain rfl : v10 = none := hn
    have hl9 : v12 = none := none_of (fun e => hC 12 _ rfl e 10 (by decide)) rfl
    subst hl9
    have g1 : v1.isSome = true := hd 1 (by decide); obtain ⟨u1, rfl⟩ := Option.isSome_iff_exists.1 g1; clear g1; obtain rfl := hX.kn 1 _ (by decide) (by decide) rfl
    have g3 : v3.isSome = true := hd 3 (by decide); obtain ⟨u3, rfl⟩ := Option.isSome_iff_exists.1 g3; clear g3; obtain rfl := hX.kn 3 _ (by decide) (by decide) rfl
    have g9 : v9.isSome = true := hd 9 (by decide)
    obtain ⟨u9, rfl⟩ := Option.isSome_iff_exists.1 g9
    obtain ⟨g, rfl, ho⟩ : PS w1.heap.size C R n 9 u9 W := hX.pc 9 (by decide) _ rfl rfl
    have hst := hX.call rfl 10 (by decide) (by decide) (Ext.refl W) (fun k x h => h) _ ⟨g, rfl, ho⟩
    clear hl hd hC hq ho
    refine StepZ.go rfl ?_
    go_simp
    exact hst
  · intro V W hl hn hd hX hC; have hq : V.length = 13 := hl; obtain ⟨v0, v1, v2, v3, v4, v5, v6, v7, v8, v9, v10, v11, v12, hV⟩ := qlen13 hq; subst hV; obtain rfl : v11 = none := hn
    have hl9 : v12 = none := none_of (fun e => hC 12 _ rfl e 11 (by decide)) rfl
    subst hl9
    have hsz := (hX.a rfl).size
    have hst := hX.call rfl 11 (by decide) (by decide) ((Ext.refl W).alloc (.cells #[.int .i64 0, .int .i64 0, .slice none 0 0] 28)) (PS.ext ((Ext.refl W).alloc _)) _ ⟨W.heap.size, rfl, hsz, Blk.new _ _ _⟩
    clear hl hd hC hq
    refine StepZ.go rfl ?_
    go_simp
    exact hst
  · intro V W hl hn hd hX hC; have hq : V.length = 13 := hl; obtain ⟨v0, v1, v2, v3, v4, v5, v6, v7, v8, v9, v10, v11, v12, hV⟩ := qlen13 hq; subst hV; obtain rfl : v12 = none := hn
    have g10 : v10.isSome = true := hd 10 (by decide)
    obtain ⟨u10, rfl⟩ := Option.isSome_iff_exists.1 g10
    have g11 : v11.isSome = true := hd 11 (by decide)
    obtain ⟨u11, rfl⟩ := Option.isSome_iff_exists.1 g11
    obtain ⟨g, rfl, ho⟩ : PS w1.heap.size C R n 10 u10 W := hX.pc 10 (by decide) _ rfl rfl
    obtain ⟨pp, rfl, hpb, hbk⟩ : PS w1.heap.size C R n 11 u11 W := hX.pc 11 (by decide) _ rfl rfl
    have hds := DS.of (C := (C : Int)) (R := (R : Int)) (hX.a rfl) hpb hbk ho
    have hst := hX.store (by decide) _ rfl hds undef
    obtain ⟨z0, z1, z2, zl⟩ := hbk.c3
    have F := hbk.frozen
    clear hl hd hC hq ho hbk hds
    refine StepZ.go rfl ?_
    go_simp
    exact ⟨rfl, hst⟩
  · intro V W hl hV hX
    have hq : V.length = 13 := hl
    obtain ⟨v0, v1, v2, v3, v4, v5, v6, v7, v8, v9, v10, v11, v12, hW⟩ := qlen13 hq
    subst hW
    have g11 : v11.isSome = true := hV 11 (by decide)
    obtain ⟨u11, rfl⟩ := Option.isSome_iff_exists.1 g11
    have g12 : v12.isSome = true := hV 12 (by decide)
    obtain ⟨u12, rfl⟩ := Option.isSome_iff_exists.1 g12
    obtain ⟨p, g, rfl, hs⟩ := hX.d _ _ rfl rfl
    have HS0 := Lib.hid hs
    clear hl hV hq g11 g12 hX hs HQ0 k0 k1 kl
    simp only [putAll, known, List.map_cons, List.map_nil, Act.put, List.setIfInBounds_toArray, List.set_cons_zero, List.set_cons_succ, Option.getD_some]
    -- BEGIN A
    have hlb : L.length ≤ 9223372036854775807 := by omega
    go_wp2
    go_loopw [37, 10, 11, 12] (fun v37 _ _ _ wr => ∃ i : Nat, i ≤ L.length ∧ v37 = .int .i64 (i : Int) ∧ Hid (Sl w1 wr g p (C : Int) (R : Int) (cellsTo C n L i))) (fun v37 _ _ _ _ => L.length - (intOf v37).toNat)
    case atStart => exact ⟨0, Nat.zero_le _, rfl, HS0⟩
    case round =>
      clear HS0
      obtain ⟨i, hi, rfl, HS⟩ := hrel
      by_cases hlt : i < L.length
      case pos =>
        have ii : (i : Int) < (L.length : Int) := by omega
        obtain ⟨lb, lo, rfl, hlw, l0, l1, l2, l3⟩ := (RLf.ext HLF.out HS.out.ext).at_ hlt
        obtain ⟨p1, p2, p3⟩ := HFT.out.ix i hlt
        obtain ⟨p4, p5⟩ := HFT.out.bit i hlt
        have HTO := Lib.hid (show cellsTo C n L (i + 1) = (cellsTo C n L i).set ((L.getD i Lf.zero).ix C).toNat (cellOf i (L.getD i Lf.zero)) from rfl)
        have hcl := cellsTo_len C n L i
        obtain ⟨ct1, hct1⟩ : ∃ ct1, cellsTo C n L (i + 1) = ct1 := ⟨_, rfl⟩
        rw [hct1] at HTO
        have HCT := Lib.hid hct1
        clear hct1
        generalize cellsTo C n L i = ct at *
        generalize L.getD i Lf.zero = x at *
        obtain ⟨xc, xr, xo, xu⟩ := x
        simp only [Lf.ix] at p1 p2 p3 p4 p5 l0 l1 l2 l3 HTO
        obtain ⟨k, hk⟩ : ∃ k : Nat, xr * (C : Int) + xc = (k : Int) := ⟨(xr * (C : Int) + xc).toNat, by have := Int.mul_nonneg p2 (Int.natCast_nonneg C); omega⟩
        have hrc : 0 ≤ xr * (C : Int) := Int.mul_nonneg p2 (Int.natCast_nonneg C)
        rw [hk] at p3 HTO
        rw [Int.toNat_natCast] at HTO
        have u1 : IntKind.i64.wrap (xr * (C : Int)) = xr * (C : Int) := IntWalk.i64_in _ (by omega)
        have u2 : IntKind.i64.wrap (xr * (C : Int) + xc) = (k : Int) := by rw [hk]; exact IntWalk.i64_in _ (by omega)
        have HKN : Hid (k < ct.length) := Lib.hid (by omega)
        have ik : (k : Int) < (n : Int) := by omega
        have hi64 : i ≤ 32 := by omega
        have HCL := Lib.hid hcl
        obtain ⟨s0, s1, s2, sl⟩ := HS.out.blk.c3
        rw [hcl] at s2
        clear hk hrc p1 p2 p3 hcl
        rcases p4 with rfl | rfl
        · -- BEGIN A1
          go_upto_region 11 with fail
          have HX9 : Hid (Ext wr ((wr.alloc (.cells #[.int .i64 xc, .int .i64 xr, .int .i64 0, .int .i64 xu] 90)).alloc (.cells #[.int .i64 (2 * (i : Int) + 1), .int .i64 xu, .int .i64 (2 * (i : Int) + 2), .int .i64 xu] 80))) := Lib.hid (by repeat (first | exact Ext.refl _ | assumption | refine Ext.alloc ?_ _ | refine Ext.drew ?_ | refine Ext.drewN ?_ _ | (refine Ext.setCell ?_ (by simp <;> omega) _) | refine Ext.trans ?_ (by assumption)))
          have HL9 := Lib.hid ((Blk.new wr 90 #[.int .i64 xc, .int .i64 xr, .int .i64 0, .int .i64 xu]).alloc (.cells #[.int .i64 (2 * (i : Int) + 1), .int .i64 xu, .int .i64 (2 * (i : Int) + 2), .int .i64 xu] 80))
          have HC9 := Lib.hid (Blk.new1 wr (.cells #[.int .i64 xc, .int .i64 xr, .int .i64 0, .int .i64 xu] 90) 80 #[.int .i64 (2 * (i : Int) + 1), .int .i64 xu, .int .i64 (2 * (i : Int) + 2), .int .i64 xu])
          clear s0 s1 s2 sl hlw l0 l1 l2 l3
          generalize ((wr.alloc (.cells #[.int .i64 xc, .int .i64 xr, .int .i64 0, .int .i64 xu] 90)).alloc (.cells #[.int .i64 (2 * (i : Int) + 1), .int .i64 xu, .int .i64 (2 * (i : Int) + 2), .int .i64 xu] 80)) = W9 at *
          have HS9 := Lib.hid (HS.out.next HX9.out)
          clear HS
          obtain ⟨q8, hq8⟩ : ∃ q8, wr.heap.size + 1 = q8 := ⟨_, rfl⟩
          rw [hq8] at HC9 ⊢
          clear hq8
          obtain ⟨q7, hq7⟩ : ∃ q7, wr.heap.size = q7 := ⟨_, rfl⟩
          rw [hq7] at HL9 ⊢
          clear hq7 HX9
          obtain ⟨s0, s1, s2, sl⟩ := HS9.out.blk.c3
          rw [HCL.out] at s2
          obtain ⟨c0, c1, c2, c3, cl⟩ := HC9.out.c4
          obtain ⟨l0, l1, l2, l3, ll⟩ := HL9.out.c4
          have hown := HS9.out.own
          unfold OCl at hown
          rw [HCL.out] at hown
          have F := World.ownsRow.frozenAt hown
          have hgl := (hown.lt g rfl).2
          obtain ⟨f0, f1, f2, f3⟩ := clCells_at ct k HKN.out
          have y0 : W9.cell? ⟨g, k * 4, none⟩ = some (.int .i64 (ct.getD k Cl.zero).f) := by rw [World.ownsRow.cellAt hown (k * 4) (by omega)]; exact f0
          have y1 : W9.cell? ⟨g, k * 4 + 1, none⟩ = some (.int .i64 (ct.getD k Cl.zero).ft) := by rw [World.ownsRow.cellAt hown (k * 4 + 1) (by omega)]; exact f1
          have y2 : W9.cell? ⟨g, k * 4 + 2, none⟩ = some (.int .i64 (ct.getD k Cl.zero).b) := by rw [World.ownsRow.cellAt hown (k * 4 + 2) (by omega)]; exact f2
          have y3 : W9.cell? ⟨g, k * 4 + 3, none⟩ = some (.int .i64 (ct.getD k Cl.zero).bt) := by rw [World.ownsRow.cellAt hown (k * 4 + 3) (by omega)]; exact f3
          clear f0 f1 f2 f3 hown
          have hce : cellOf i ⟨xc, xr, 0, xu⟩ = ⟨2 * (i : Int) + 1, xu, 2 * (i : Int) + 2, xu⟩ := rfl
          have HEN := Lib.hid (HS9.out.lay HKN.out (cellOf i ⟨xc, xr, 0, xu⟩))
          rw [← HTO.out, hce] at HEN
          clear HS9 hce
          go_wp2
          go_roundw
          case rel => exact ⟨i + 1, by omega, by go_num, Lib.hid (by rw [HCT.out]; exact HEN.out)⟩
          case measure => simp [intOf]; omega
          -- END A1
        · -- BEGIN A2
          go_upto_region 11 with fail
          have HX9 : Hid (Ext wr ((wr.alloc (.cells #[.int .i64 xc, .int .i64 xr, .int .i64 1, .int .i64 xu] 90)).alloc (.cells #[.int .i64 (2 * (i : Int) + 2), .int .i64 xu, .int .i64 (2 * (i : Int) + 1), .int .i64 xu] 80))) := Lib.hid (by repeat (first | exact Ext.refl _ | assumption | refine Ext.alloc ?_ _ | refine Ext.drew ?_ | refine Ext.drewN ?_ _ | (refine Ext.setCell ?_ (by simp <;> omega) _) | refine Ext.trans ?_ (by assumption)))
          have HL9 := Lib.hid ((Blk.new wr 90 #[.int .i64 xc, .int .i64 xr, .int .i64 1, .int .i64 xu]).alloc (.cells #[.int .i64 (2 * (i : Int) + 2), .int .i64 xu, .int .i64 (2 * (i : Int) + 1), .int .i64 xu] 80))
          have HC9 := Lib.hid (Blk.new1 wr (.cells #[.int .i64 xc, .int .i64 xr, .int .i64 1, .int .i64 xu] 90) 80 #[.int .i64 (2 * (i : Int) + 2), .int .i64 xu, .int .i64 (2 * (i : Int) + 1), .int .i64 xu])
          clear s0 s1 s2 sl hlw l0 l1 l2 l3
          generalize ((wr.alloc (.cells #[.int .i64 xc, .int .i64 xr, .int .i64 1, .int .i64 xu] 90)).alloc (.cells #[.int .i64 (2 * (i : Int) + 2), .int .i64 xu, .int .i64 (2 * (i : Int) + 1), .int .i64 xu] 80)) = W9 at *
          have HS9 := Lib.hid (HS.out.next HX9.out)
          clear HS
          obtain ⟨q8, hq8⟩ : ∃ q8, wr.heap.size + 1 = q8 := ⟨_, rfl⟩
          rw [hq8] at HC9 ⊢
          clear hq8
          obtain ⟨q7, hq7⟩ : ∃ q7, wr.heap.size = q7 := ⟨_, rfl⟩
          rw [hq7] at HL9 ⊢
          clear hq7 HX9
          obtain ⟨s0, s1, s2, sl⟩ := HS9.out.blk.c3
          rw [HCL.out] at s2
          obtain ⟨c0, c1, c2, c3, cl⟩ := HC9.out.c4
          obtain ⟨l0, l1, l2, l3, ll⟩ := HL9.out.c4
          have hown := HS9.out.own
          unfold OCl at hown
          rw [HCL.out] at hown
          have F := World.ownsRow.frozenAt hown
          have hgl := (hown.lt g rfl).2
          obtain ⟨f0, f1, f2, f3⟩ := clCells_at ct k HKN.out
          have y0 : W9.cell? ⟨g, k * 4, none⟩ = some (.int .i64 (ct.getD k Cl.zero).f) := by rw [World.ownsRow.cellAt hown (k * 4) (by omega)]; exact f0
          have y1 : W9.cell? ⟨g, k * 4 + 1, none⟩ = some (.int .i64 (ct.getD k Cl.zero).ft) := by rw [World.ownsRow.cellAt hown (k * 4 + 1) (by omega)]; exact f1
          have y2 : W9.cell? ⟨g, k * 4 + 2, none⟩ = some (.int .i64 (ct.getD k Cl.zero).b) := by rw [World.ownsRow.cellAt hown (k * 4 + 2) (by omega)]; exact f2
          have y3 : W9.cell? ⟨g, k * 4 + 3, none⟩ = some (.int .i64 (ct.getD k Cl.zero).bt) := by rw [World.ownsRow.cellAt hown (k * 4 + 3) (by omega)]; exact f3
          clear f0 f1 f2 f3 hown
          have hce : cellOf i ⟨xc, xr, 1, xu⟩ = ⟨2 * (i : Int) + 2, xu, 2 * (i : Int) + 1, xu⟩ := rfl
          have HEN := Lib.hid (HS9.out.lay HKN.out (cellOf i ⟨xc, xr, 1, xu⟩))
          rw [← HTO.out, hce] at HEN
          clear HS9 hce
          go_wp2
          go_roundw
          case rel => exact ⟨i + 1, by omega, by go_num, Lib.hid (by rw [HCT.out]; exact HEN.out)⟩
          case measure => simp [intOf]; omega
          -- END A2
      case neg =>
        -- BEGIN A3
        obtain rfl : i = L.length := by omega
        have iN : ¬ (L.length : Int) < (L.length : Int) := by omega
        clear hlt hi
        obtain ⟨s0, s1, s2, sl⟩ := HS.out.blk.c3
        obtain ⟨r0, r1, r2, rl⟩ := ((HQB.out.ext HX1.out).ext HS.out.ext).c3
        have F := ((HQB.out.ext HX1.out).ext HS.out.ext).frozen
        rw [cellsTo_len] at s2
        go_wp2
        have hown := HS.out.own
        unfold OCl at hown
        have hqn : qb ≠ g := by have := HS.out.gb; have := ((HQB.out.ext HX1.out)).lt; omega
        have h3 := own_far (own_far (own_far hown hqn 0 (.int .i64 (C : Int))) hqn 1 (.int .i64 (R : Int))) hqn 2 (.slice (some ⟨g, 0, none⟩) n n)
        rw [cellsTo_len] at h3
        refine bodyPost_ret (v := .tuple #[.agg #[.int .i64 (C : Int), .int .i64 (R : Int), .slice (some ⟨g, 0, none⟩) n n], .int .i64 0]) (by simp [results, Try.results7, go_sem, r0, r1, r2]) rfl (HQR.out _ _ ⟨_, n, rfl, h3.mono (Nat.zero_le _), setCell3 ((HX0.out.trans HX1.out).trans HS.out.ext) HQE.out _ _ _⟩)
        -- END A3
    -- END A
set_option maxRecDepth 100000 in
set_option maxHeartbeats 8000000 in
theorem schemeOf_bad (C R : Int) (A : Option Addr) (c : Nat) (fs : List (Int × Int)) (w : World) (h : RFo w A fs) (hI : ∀ k, k < fs.length → I64 (fs.getD k (0, 0)).2) (hl : fs.length ≤ 12) (hg : ¬ GoodF C R fs) :
    Calls Try.prog 7 #[.agg #[.int .i64 C, .int .i64 R], .slice A fs.length c] w (RetSo C R fs w) := by
  have CF : Hid (∀ W, RFo W A fs → Calls Try.prog 30 #[.agg #[.int .i64 C, .int .i64 R], .slice A fs.length c] W (fun e w' => ∃ i z : Int, z ≠ 0 ∧ e = .returned (.tuple #[.slice none 0 0, .int .i64 i, .int .i64 z]) ∧ Ext W w')) := Lib.hid fun W h =>
    (folded_all C R A c fs W h hI hl).mono fun e w' h9 => by
      rcases h9 with ⟨h9, _⟩ | ⟨_, h9⟩
      · exact absurd h9 hg
      · exact h9
  have HF := Lib.hid h
  have HG := Lib.hid hg
  have HSH := Lib.hid ((Blk.new w 22 #[.int .i64 C, .int .i64 R]).alloc (.cells #[.int .i64 0, .int .i64 0, .slice none 0 0] 28))
  have HQB := Lib.hid (Blk.new1 w (.cells #[.int .i64 C, .int .i64 R] 22) 28 #[.int .i64 0, .int .i64 0, .slice none 0 0])
  have HX0 : Hid (Ext w ((w.alloc (.cells #[.int .i64 C, .int .i64 R] 22)).alloc (.cells #[.int .i64 0, .int .i64 0, .slice none 0 0] 28))) := Lib.hid (by repeat (first | exact Ext.refl _ | assumption | refine Ext.alloc ?_ _ | refine Ext.drew ?_ | refine Ext.drewN ?_ _ | (refine Ext.setCell ?_ (by simp <;> omega) _) | refine Ext.trans ?_ (by assumption)))
  clear h hI hg
  go_enter Try.func7, Try.ntmps7
  go_upto_region 1 with fail
  generalize ((w.alloc (.cells #[.int .i64 C, .int .i64 R] 22)).alloc (.cells #[.int .i64 0, .int .i64 0, .slice none 0 0] 28)) = w0 at *
  obtain ⟨qb, hqb⟩ : ∃ qb, w.heap.size + 1 = qb := ⟨_, rfl⟩
  rw [hqb] at HQB ⊢
  have HQE : Hid (w.heap.size ≤ qb) := Lib.hid (by omega)
  clear hqb
  obtain ⟨sb, hsb⟩ : ∃ sb, w.heap.size = sb := ⟨_, rfl⟩
  rw [hsb] at HSH ⊢
  clear hsb
  obtain ⟨k0, k1, _, _, kl⟩ := HSH.out.c2
  go_wp2_with (first | (go_at_call 30; refine Calls.mono (CF.out _ (HF.out.ext HX0.out)) ?_; rintro e w1 ⟨i1, z1, hz, rfl, hx⟩; have HZ := Lib.hid hz; have ez : (z1 != 0) = true := (by simpa using hz); have HX1 := Lib.hid hx; obtain ⟨r0, r1, r2, rl⟩ := (HQB.out.ext HX1.out).c3; have F := (HQB.out.ext HX1.out).frozen; clear hx hz))
  refine bodyPost_ret (v := .tuple #[.agg #[.int .i64 0, .int .i64 0, .slice none 0 0], .int .i64 z1]) (by simp [results, Try.results7, go_sem, r0, r1, r2]) rfl (.inr ⟨HG.out, z1, HZ.out, rfl, setCell3 (HX0.out.trans HX1.out) HQE.out _ _ _⟩)
theorem schemeOf_any (C R : Int) (A : Option Addr) (c : Nat) (fs : List (Int × Int)) (w : World) (h : RFo w A fs) (hI : ∀ k, k < fs.length → I64 (fs.getD k (0, 0)).2) (hl : fs.length ≤ 12) :
    Calls Try.prog 7 #[.agg #[.int .i64 C, .int .i64 R], .slice A fs.length c] w (RetSo C R fs w) := by
  by_cases hg : GoodF C R fs
  · obtain ⟨_, C', R', rfl, rfl, _⟩ := hg.once
    exact schemeOf_ok C' R' A c fs w h hI hl hg
  · exact schemeOf_bad C R A c fs w h hI hl hg
end Go.Proofs.Ytniiahddpdiocaa
