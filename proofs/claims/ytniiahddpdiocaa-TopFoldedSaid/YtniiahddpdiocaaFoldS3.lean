/-
  Walks: check, read, Reads of a right scheme; the reference's InOrder.
-/
import Derived.Test.YtniiahddpdiocaaFoldS2
import Derived.Deep.DeepCutAuto
namespace Go.Proofs.Ytniiahddpdiocaa
open Go.RowKit
attribute [local go_sem ↓] Go.wp_at_zero Go.wp_at_succ
attribute [local go_sem] stateAt vu known List.map_cons List.map_nil Option.getD_some

theorem check_any (C R : Nat) (A : Option Addr) (c : Nat) (l : List Cl) (w : World) (h : RCl w A l) (hl : l.length = R * C) (hz : sheetE (C : Int) (R : Int) = 0) (hr : RightC l) :
    Calls Try.prog 34 #[.agg #[.int .i64 (C : Int), .int .i64 (R : Int), .slice A l.length c]] w (Ret (.int .i64 0) w) := by
  have CS := Lib.hid (checkScheme_any C R A c l _ (h.ext ((Ext.refl w).alloc (.cells #[.int .i64 (C : Int), .int .i64 (R : Int), .slice A l.length c] 28))) hl hz hr)
  clear h hl hz hr
  go_enter Try.func34, Try.ntmps34
  go_wp2_with (first | (go_at_call 61; refine Calls.mono (CS.out) ?_; rintro e w1 ⟨rfl, hx⟩; have HX := Lib.hid hx; clear hx))
  go_ret
  exact Ret.mk' rfl (Ext.of_alloc HX.out)
/-! Pages in order. -/
def pgCells : Nat → List Value
  | 0 => []
  | n + 1 => pgCells n ++ [.int .i64 ((n + 1 : Nat) : Int), .int .i64 0]
theorem pgCells_len : ∀ n, (pgCells n).length = n * 2
  | 0 => rfl
  | n + 1 => by rw [pgCells, List.length_append, pgCells_len n]; simp; omega
theorem pgCells_at : ∀ (n k : Nat), k < n → (pgCells n)[k * 2]? = some (.int .i64 ((k + 1 : Nat) : Int)) ∧ (pgCells n)[k * 2 + 1]? = some (.int .i64 0)
  | n + 1, k, h => by
    have hl := pgCells_len n
    rw [pgCells]
    by_cases hk : k < n
    · obtain ⟨h0, h1⟩ := pgCells_at n k hk
      exact ⟨by rw [List.getElem?_append_left (by omega)]; exact h0, by rw [List.getElem?_append_left (by omega)]; exact h1⟩
    · obtain rfl : k = n := by omega
      rw [List.getElem?_append_right (by omega), List.getElem?_append_right (by omega), hl]
      simp
theorem pageElt : Elt 40 47 2 16 (.agg #[.int .i64 0, .int .i64 0]) := ⟨Try.underlying40, by kernel_rfl, rfl, by decide, by decide⟩
/-- Pages in order handed back. -/
def RPg (w : World) (A : Option Addr) (n : Nat) : Prop := RC w A n 2 (pgCells n)
theorem RPg.ext {w w' : World} {A : Option Addr} {n : Nat} (h : RPg w A n) (hx : Ext w w') : RPg w' A n := RC.ext h hx
theorem RPg.at_ {w : World} {A : Option Addr} {n : Nat} (h : RPg w A n) {k : Nat} (hk : k < n) : ∃ b off, A = some ⟨b, off, none⟩ ∧ b < w.heap.size ∧ w.cell? ⟨b, off + k * 2, none⟩ = some (.int .i64 ((k + 1 : Nat) : Int)) ∧ w.cell? ⟨b, off + k * 2 + 1, none⟩ = some (.int .i64 0) := by
  obtain ⟨b, off, rfl, hb, hc⟩ := h.2.2 (by omega)
  obtain ⟨h0, h1⟩ := pgCells_at n k hk
  exact ⟨b, off, rfl, hb, hc _ _ h0, by rw [Nat.add_assoc]; exact hc _ _ h1⟩
def RetPg (n : Nat) (w : World) (e : Ending) (w' : World) : Prop := ∃ A c, e = .returned (.slice A n c) ∧ RPg w' A n ∧ Ext w w'
set_option maxRecDepth 100000 in
set_option maxHeartbeats 8000000 in
theorem rInOrder_any (A : Option Addr) (c n : Nat) (w : World) (h : RPg w A n) (hn : n ≤ 1000) :
    Calls Try.prog 29 #[.slice A n c] w (Ret (.bool true) w) := by
  have HR := Lib.hid h
  have hb : n ≤ 9223372036854775807 := by omega
  clear h
  go_enter Try.func29, Try.ntmps29
  go_wp2
  go_loopw [3] (fun v3 wr => ∃ k : Nat, k ≤ n ∧ v3 = .int .i64 (k : Int) ∧ w = wr) (fun v3 _ => n - (intOf v3).toNat)
  case atStart => exact ⟨0, Nat.zero_le _, rfl, rfl⟩
  case round =>
    obtain ⟨k, hk, rfl, rfl⟩ := hrel
    by_cases hlt : k < n
    case pos =>
      have ik : (k : Int) < (n : Int) := by omega
      obtain ⟨b, off, rfl, hbw, q0, q1⟩ := HR.out.at_ hlt
      rw [Int.natCast_add] at q0
      go_wp2
      go_roundw
      case rel => exact ⟨k + 1, by omega, by go_num, by trivial⟩
      case measure => simp [intOf]; omega
    case neg =>
      obtain rfl : k = n := by omega
      have iN : ¬ (k : Int) < (k : Int) := by omega
      go_wp2
      go_ret
      exact Ret.mk' rfl (Ext.refl _)
theorem qlen20 {α : Type} {V : List α} (h : V.length = 20) : ∃ a0 a1 a2 a3 a4 a5 a6 a7 a8 a9 a10 a11 a12 a13 a14 a15 a16 a17 a18 a19, V = [a0, a1, a2, a3, a4, a5, a6, a7, a8, a9, a10, a11, a12, a13, a14, a15, a16, a17, a18, a19] := by
  match V, h with
  | [a0, a1, a2, a3, a4, a5, a6, a7, a8, a9, a10, a11, a12, a13, a14, a15, a16, a17, a18, a19], _ => exact ⟨a0, a1, a2, a3, a4, a5, a6, a7, a8, a9, a10, a11, a12, a13, a14, a15, a16, a17, a18, a19, rfl⟩
/-- A page's block before and behind its store. -/
def PgB (W : World) (p : Nat) (F : Int) (st : Option Value) : Prop := Blk W p 47 (match st with | none => #[.int .i64 0, .int .i64 0] | some _ => #[.int .i64 F, .int .i64 0])
/-- What is known in the region that lays two pages. -/
structure QP (wz : World) (F G : Int) (kv : List Value) (V : Vs) (W : World) : Prop where
  len : V.length = 20
  ext : Ext wz W
  kn : ∀ j x, j < 16 → V.getD j none = some x → x = kv.getD j undef
  p16 : ∀ x, V.getD 16 none = some x → ∃ p : Nat, x = .pointer (some ⟨p, 0, none⟩) ∧ wz.heap.size ≤ p ∧ PgB W p F (V.getD 18 none)
  p17 : ∀ x, V.getD 17 none = some x → ∃ p : Nat, x = .pointer (some ⟨p, 0, none⟩) ∧ wz.heap.size ≤ p ∧ PgB W p G (V.getD 19 none)
  ne : ∀ x y, V.getD 16 none = some x → V.getD 17 none = some y → x ≠ y
section
variable {wz W : World} {F G : Int} {kv : List Value} {V : Vs}
theorem PgB.lt {p : Nat} {st : Option Value} (h : PgB W p F st) : p < W.heap.size := Blk.lt h
theorem QP.start (h : Ext wz W) : QP wz F G kv (List.replicate 20 none) W :=
  ⟨by simp, h, fun j x _ e => (by rw [rep_none] at e; cases e), fun x e => (by rw [rep_none] at e; cases e), fun x e => (by rw [rep_none] at e; cases e), fun x y e => (by rw [rep_none] at e; cases e)⟩
theorem QP.known (h : QP wz F G kv V W) (j : Nat) (hj : j < 16) : QP wz F G kv (V.set j (some (kv.getD j undef))) W := by
  refine ⟨by rw [List.length_set]; exact h.len, h.ext, fun k x hk e => ?_, fun x e => ?_, fun x e => ?_, fun x y e e2 => ?_⟩
  · by_cases hkj : k = j
    · subst hkj
      rw [getD_set_eq (by rw [h.len]; omega)] at e
      cases e; rfl
    · rw [getD_set_ne hkj] at e; exact h.kn k x hk e
  · rw [getD_set_ne (by omega)] at e; rw [getD_set_ne (by omega)]; exact h.p16 x e
  · rw [getD_set_ne (by omega)] at e; rw [getD_set_ne (by omega)]; exact h.p17 x e
  · rw [getD_set_ne (by omega)] at e e2; exact h.ne x y e e2
theorem QP.alloc16 (h : QP wz F G kv V W) (_h16 : V.getD 16 none = none) (h18 : V.getD 18 none = none) : QP wz F G kv (V.set 16 (some (.pointer (some ⟨W.heap.size, 0, none⟩)))) (W.alloc (.cells #[.int .i64 0, .int .i64 0] 47)) := by
  refine ⟨by rw [List.length_set]; exact h.len, h.ext.alloc _, fun k x hk e => ?_, fun x e => ?_, fun x e => ?_, fun x y e e2 => ?_⟩
  · rw [getD_set_ne (by omega)] at e; exact h.kn k x hk e
  · rw [getD_set_eq (by rw [h.len]; omega)] at e
    cases e
    rw [getD_set_ne (by omega), h18]
    exact ⟨_, rfl, h.ext.size, Blk.new _ _ _⟩
  · rw [getD_set_ne (by omega)] at e; rw [getD_set_ne (by omega)]
    obtain ⟨p, h1, h2, h3⟩ := h.p17 x e
    exact ⟨p, h1, h2, Blk.alloc h3 _⟩
  · rw [getD_set_eq (by rw [h.len]; omega)] at e
    rw [getD_set_ne (by omega)] at e2
    cases e
    obtain ⟨p, rfl, h2, h3⟩ := h.p17 y e2
    intro e9
    injection e9 with e9
    injection e9 with e9
    injection e9 with e9
    have := h3.lt
    omega
theorem QP.alloc17 (h : QP wz F G kv V W) (_h17 : V.getD 17 none = none) (h19 : V.getD 19 none = none) : QP wz F G kv (V.set 17 (some (.pointer (some ⟨W.heap.size, 0, none⟩)))) (W.alloc (.cells #[.int .i64 0, .int .i64 0] 47)) := by
  refine ⟨by rw [List.length_set]; exact h.len, h.ext.alloc _, fun k x hk e => ?_, fun x e => ?_, fun x e => ?_, fun x y e e2 => ?_⟩
  · rw [getD_set_ne (by omega)] at e; exact h.kn k x hk e
  · rw [getD_set_ne (by omega)] at e; rw [getD_set_ne (by omega)]
    obtain ⟨p, h1, h2, h3⟩ := h.p16 x e
    exact ⟨p, h1, h2, Blk.alloc h3 _⟩
  · rw [getD_set_eq (by rw [h.len]; omega)] at e
    cases e
    rw [getD_set_ne (by omega), h19]
    exact ⟨_, rfl, h.ext.size, Blk.new _ _ _⟩
  · rw [getD_set_eq (by rw [h.len]; omega)] at e2
    rw [getD_set_ne (by omega)] at e
    cases e2
    obtain ⟨p, rfl, h2, h3⟩ := h.p16 x e
    intro e9
    injection e9 with e9
    injection e9 with e9
    injection e9 with e9
    have := h3.lt
    omega
theorem QP.store18 (h : QP wz F G kv V W) (p : Nat) (h16 : V.getD 16 none = some (.pointer (some ⟨p, 0, none⟩))) (h18 : V.getD 18 none = none) (y : Value) : QP wz F G kv (V.set 18 (some y)) ((W.setCell ⟨p, 0, none⟩ (.int .i64 F)).setCell ⟨p, 1, none⟩ (.int .i64 0)) := by
  obtain ⟨p9, he, hp, hb⟩ := h.p16 _ h16
  injection he with he
  injection he with he
  injection he with he
  subst he
  rw [h18] at hb
  have hb0 : Blk W p 47 #[.int .i64 0, .int .i64 0] := hb
  refine ⟨by rw [List.length_set]; exact h.len, (h.ext.setCell (p := ⟨p, 0, none⟩) hp _).setCell (p := ⟨p, 1, none⟩) hp _, fun k x hk e => ?_, fun x e => ?_, fun x e => ?_, fun x y e e2 => ?_⟩
  · rw [getD_set_ne (by omega)] at e; exact h.kn k x hk e
  · rw [getD_set_ne (by omega)] at e
    rw [getD_set_eq (by rw [h.len]; omega)]
    rw [h16] at e
    cases e
    exact ⟨p, rfl, hp, (hb0.set_ 0 _).set_ 1 _⟩
  · rw [getD_set_ne (by omega)] at e; rw [getD_set_ne (by omega)]
    obtain ⟨q, h1, h2, h3⟩ := h.p17 x e
    have hne : q ≠ p := fun e9 => h.ne _ _ h16 e (by rw [h1, e9])
    exact ⟨q, h1, h2, Blk.far (Blk.far h3 (p := ⟨p, 0, none⟩) hne _) (p := ⟨p, 1, none⟩) hne _⟩
  · rw [getD_set_ne (by omega)] at e e2; exact h.ne x y e e2
theorem QP.store19 (h : QP wz F G kv V W) (p : Nat) (h17 : V.getD 17 none = some (.pointer (some ⟨p, 0, none⟩))) (h19 : V.getD 19 none = none) (y : Value) : QP wz F G kv (V.set 19 (some y)) ((W.setCell ⟨p, 0, none⟩ (.int .i64 G)).setCell ⟨p, 1, none⟩ (.int .i64 0)) := by
  obtain ⟨p9, he, hp, hb⟩ := h.p17 _ h17
  injection he with he
  injection he with he
  injection he with he
  subst he
  rw [h19] at hb
  have hb0 : Blk W p 47 #[.int .i64 0, .int .i64 0] := hb
  refine ⟨by rw [List.length_set]; exact h.len, (h.ext.setCell (p := ⟨p, 0, none⟩) hp _).setCell (p := ⟨p, 1, none⟩) hp _, fun k x hk e => ?_, fun x e => ?_, fun x e => ?_, fun x y e e2 => ?_⟩
  · rw [getD_set_ne (by omega)] at e; exact h.kn k x hk e
  · rw [getD_set_ne (by omega)] at e; rw [getD_set_ne (by omega)]
    obtain ⟨q, h1, h2, h3⟩ := h.p16 x e
    have hne : q ≠ p := fun e9 => h.ne _ _ e h17 (by rw [h1, e9])
    exact ⟨q, h1, h2, Blk.far (Blk.far h3 (p := ⟨p, 0, none⟩) hne _) (p := ⟨p, 1, none⟩) hne _⟩
  · rw [getD_set_ne (by omega)] at e
    rw [getD_set_eq (by rw [h.len]; omega)]
    rw [h17] at e
    cases e
    exact ⟨p, rfl, hp, (hb0.set_ 0 _).set_ 1 _⟩
  · rw [getD_set_ne (by omega)] at e e2; exact h.ne x y e e2
end
/-- The cells fit the leaves: each cell bears the pages of its leaf. -/
structure Fit (C n : Nat) (cs : List Cl) (l : List Lf) : Prop where
  len : cs.length = n
  ix : ∀ i, i < l.length → 0 ≤ (l.getD i Lf.zero).c ∧ 0 ≤ (l.getD i Lf.zero).r ∧ (l.getD i Lf.zero).ix C < (n : Int)
  bit : ∀ i, i < l.length → ((l.getD i Lf.zero).o = 0 ∨ (l.getD i Lf.zero).o = 1) ∧ ((l.getD i Lf.zero).u = 0 ∨ (l.getD i Lf.zero).u = 1)
  cell : ∀ i, i < l.length → cs.getD ((l.getD i Lf.zero).ix C).toNat Cl.zero = cellOf i (l.getD i Lf.zero)
theorem OnceL.fit {C R : Nat} {l : List Lf} (h : OnceL C R l) : Fit C (R * C) (cellsOf C R l) l :=
  ⟨cellsOf_len _ _ _, fun _ hi => ⟨(h.ok _ (getD_memL hi)).1, (h.ok _ (getD_memL hi)).2.2.1, (h.lt hi).2⟩, fun _ hi => (h.ok _ (getD_memL hi)).2.2.2.2, fun _ hi => cells_read h hi⟩
theorem pg_two (n : Nat) : pgCells (n * 2 + 2) = pgCells (n * 2) ++ [.int .i64 (2 * (n : Int) + 1), .int .i64 0, .int .i64 (2 * (n : Int) + 2), .int .i64 0] := by
  show pgCells (n * 2 + 1 + 1) = _
  rw [pgCells, pgCells, List.append_assoc]
  congr 1
  simp
  omega
set_option maxRecDepth 100000 in
set_option maxHeartbeats 8000000 in
theorem read_any (C R : Nat) (A B : Option Addr) (c d n : Nat) (cs : List Cl) (l : List Lf) (w : World) (h : RCl w A cs) (hb : RLf w B l) (hf : Fit C n cs l) (hn : n ≤ 32) (hl : l.length ≤ 32) (_hC : C ≤ 8) :
    Calls Try.prog 35 #[.agg #[.int .i64 (C : Int), .int .i64 (R : Int), .slice A cs.length c], .slice B l.length d] w (RetPg (l.length * 2) w) := by
  have HR := Lib.hid h; have HL := Lib.hid hb; have HFT := Lib.hid hf
  have hcb : cs.length ≤ 9223372036854775807 := by have := hf.len; omega
  have hlb : l.length ≤ 9223372036854775807 := by omega
  have HS0 := Lib.hid (Blk.new w 28 #[.int .i64 (C : Int), .int .i64 (R : Int), .slice A cs.length c])
  have HX0 : Hid (Ext w (w.alloc (.cells #[.int .i64 (C : Int), .int .i64 (R : Int), .slice A cs.length c] 28))) := Lib.hid (by repeat (first | exact Ext.refl _ | assumption | refine Ext.alloc ?_ _ | refine Ext.drew ?_ | refine Ext.drewN ?_ _ | (refine Ext.setCell ?_ (by simp <;> omega) _) | refine Ext.trans ?_ (by assumption)))
  have mixed : Try.prog.follows .mixedOrders = true := by kernel_rfl
  clear h hb hf
  go_enter Try.func35, Try.ntmps35
  go_wp2
  generalize (w.alloc (.cells #[.int .i64 (C : Int), .int .i64 (R : Int), .slice A cs.length c] 28)) = w0 at *
  obtain ⟨sb, hsb⟩ : ∃ sb, w.heap.size = sb := ⟨_, rfl⟩
  rw [hsb] at HS0 ⊢
  have HSE : Hid (w.heap.size ≤ w0.heap.size) := Lib.hid HX0.out.size
  clear hsb
  go_loopw [13, 5, 7, 8, 9, 10] (fun v13 v5 _ _ _ _ wr => ∃ i : Nat, i ≤ l.length ∧ v13 = .int .i64 (i : Int) ∧ Hid (wr.ownsRow w0.heap.size 47 2 v5 (i * 2) (pgCells (i * 2))) ∧ Hid (Ext w0 wr)) (fun v13 _ _ _ _ _ _ => l.length - (intOf v13).toNat)
  case atStart => exact ⟨0, Nat.zero_le _, rfl, Lib.hid (World.ownsRow_nil _ _ _ _), Lib.hid (Ext.refl _)⟩
  case round =>
    obtain ⟨i, hi, rfl, HO, HX⟩ := hrel
    obtain ⟨s0, s1, s2, sl⟩ := (HS0.out.ext HX.out).c3
    by_cases hlt : i < l.length
    case pos =>
      have ii : (i : Int) < (l.length : Int) := by omega
      obtain ⟨lb, lo, rfl, hlw, l0, l1, l2, l3⟩ := (RLf.ext HL.out (HX0.out.trans HX.out)).at_ hlt
      obtain ⟨p1, p2, p3⟩ := HFT.out.ix i hlt
      obtain ⟨p4, p5⟩ := HFT.out.bit i hlt
      have HCE := HFT.out.cell i hlt
      have hln := HFT.out.len
      generalize l.getD i Lf.zero = x at *
      obtain ⟨xc, xr, xo, xu⟩ := x
      simp only [Lf.ix] at p1 p2 p3 p4 p5 l0 l1 l2 l3 HCE
      obtain ⟨k, hk⟩ : ∃ k : Nat, xr * (C : Int) + xc = (k : Int) := ⟨(xr * (C : Int) + xc).toNat, by have := Int.mul_nonneg p2 (Int.natCast_nonneg C); omega⟩
      have hrc : 0 ≤ xr * (C : Int) := Int.mul_nonneg p2 (Int.natCast_nonneg C)
      rw [hk] at p3 HCE
      rw [Int.toNat_natCast] at HCE
      have u1 : IntKind.i64.wrap (xr * (C : Int)) = xr * (C : Int) := IntWalk.i64_in _ (by omega)
      have u2 : IntKind.i64.wrap (xr * (C : Int) + xc) = (k : Int) := by rw [hk]; exact IntWalk.i64_in _ (by omega)
      have hkc : k < cs.length := by omega
      have ik : (k : Int) < (cs.length : Int) := by omega
      obtain ⟨cb, co, rfl, hcw, c0, c1, c2, c3⟩ := (RCl.ext HR.out (HX0.out.trans HX.out)).at_ hkc
      rw [HCE] at c0 c1 c2 c3
      have HPG := Lib.hid (pg_two i)
      have HHK := Lib.hid hk
      have HSZ : Hid (w0.heap.size ≤ wr.heap.size) := Lib.hid HX.out.size
      clear hk HCE hrc p1 p2 p3 hln
      rcases p4 with rfl | rfl <;> rcases p5 with rfl | rfl
      ·
        simp only [cellOf] at c0 c1 c2 c3
        simp at c0 c1 c2 c3
        go_upto_region 6 with fail
        have HXZ0 : Hid (Ext wr ((wr.alloc (.cells #[.int .i64 xc, .int .i64 xr, .int .i64 0, .int .i64 0] 90)).alloc (.cells #[.int .i64 (2 * (i : Int) + 1), .int .i64 0, .int .i64 (2 * (i : Int) + 2), .int .i64 0] 80))) := Lib.hid (by repeat (first | exact Ext.refl _ | assumption | refine Ext.alloc ?_ _ | refine Ext.drew ?_ | refine Ext.drewN ?_ _ | (refine Ext.setCell ?_ (by simp <;> omega) _) | refine Ext.trans ?_ (by assumption)))
        have HLB0 := Lib.hid ((Blk.new wr 90 #[.int .i64 xc, .int .i64 xr, .int .i64 0, .int .i64 0]).alloc (.cells #[.int .i64 (2 * (i : Int) + 1), .int .i64 0, .int .i64 (2 * (i : Int) + 2), .int .i64 0] 80))
        have HCB0 := Lib.hid (Blk.new1 wr (.cells #[.int .i64 xc, .int .i64 xr, .int .i64 0, .int .i64 0] 90) 80 #[.int .i64 (2 * (i : Int) + 1), .int .i64 0, .int .i64 (2 * (i : Int) + 2), .int .i64 0])
        generalize ((wr.alloc (.cells #[.int .i64 xc, .int .i64 xr, .int .i64 0, .int .i64 0] 90)).alloc (.cells #[.int .i64 (2 * (i : Int) + 1), .int .i64 0, .int .i64 (2 * (i : Int) + 2), .int .i64 0] 80)) = wz at *
        have HXZ := HXZ0
        have HLB := HLB0
        have HCB := HCB0
        clear HXZ0 HLB0 HCB0
        obtain ⟨q8, hq8⟩ : ∃ q8, wr.heap.size + 1 = q8 := ⟨_, rfl⟩
        rw [hq8] at HCB ⊢
        clear hq8
        obtain ⟨q7, hq7⟩ : ∃ q7, wr.heap.size = q7 := ⟨_, rfl⟩
        rw [hq7] at HLB ⊢
        clear hq7
        have HQ0 : Hid (QP wz (2 * (i : Int) + 1) (2 * (i : Int) + 2) [.pointer (some ⟨q8, 0, none⟩), .int .i64 (2 * (i : Int) + 1), .pointer (some ⟨q8, 1, none⟩), .int .i64 0, .pointer (some ⟨q7, 3, none⟩), .int .i64 0, .int .i64 0, .agg #[.int .i64 (2 * (i : Int) + 1), .int .i64 0], .pointer (some ⟨q8, 2, none⟩), .int .i64 (2 * (i : Int) + 2), .pointer (some ⟨q8, 3, none⟩), .int .i64 0, .pointer (some ⟨q7, 3, none⟩), .int .i64 0, .int .i64 0, .agg #[.int .i64 (2 * (i : Int) + 2), .int .i64 0]] (List.replicate 20 none) wz.drew) := Lib.hid (QP.start ((Ext.refl wz).drew))
        refine wp_region_q (QP wz (2 * (i : Int) + 1) (2 * (i : Int) + 2) _) (by kernel_rfl) (by kernel_rfl) HQ0.out ⟨?_, ?_, ?_, ?_, ?_, ?_, ?_, ?_, ?_, ?_, ?_, ?_, ?_, ?_, ?_, ?_, ?_, ?_, ?_, ?_, trivial⟩ ?_
        · intro V W hl hn hd hX hC; have hq : V.length = 20 := hl; obtain ⟨v0, v1, v2, v3, v4, v5, v6, v7, v8, v9, v10, v11, v12, v13, v14, v15, v16, v17, v18, v19, hV⟩ := qlen20 hq; subst hV; obtain rfl : v0 = none := hn
          clear hl hd hC hq
          refine StepZ.go rfl ?_
          go_simp
          exact hX.known 0 (by decide)
        · intro V W hl hn hd hX hC; have hq : V.length = 20 := hl; obtain ⟨v0, v1, v2, v3, v4, v5, v6, v7, v8, v9, v10, v11, v12, v13, v14, v15, v16, v17, v18, v19, hV⟩ := qlen20 hq; subst hV; obtain rfl : v1 = none := hn
          obtain ⟨z0, z1, z2, z3, zl⟩ := (HCB.out.ext hX.ext).c4
          have g0 : v0.isSome = true := hd 0 (by decide); obtain ⟨u0, rfl⟩ := Option.isSome_iff_exists.1 g0; clear g0; obtain rfl := hX.kn 0 _ (by decide) rfl
          clear hl hd hC hq
          refine StepZ.go rfl ?_
          go_simp
          exact hX.known 1 (by decide)
        · intro V W hl hn hd hX hC; have hq : V.length = 20 := hl; obtain ⟨v0, v1, v2, v3, v4, v5, v6, v7, v8, v9, v10, v11, v12, v13, v14, v15, v16, v17, v18, v19, hV⟩ := qlen20 hq; subst hV; obtain rfl : v2 = none := hn
          clear hl hd hC hq
          refine StepZ.go rfl ?_
          go_simp
          exact hX.known 2 (by decide)
        · intro V W hl hn hd hX hC; have hq : V.length = 20 := hl; obtain ⟨v0, v1, v2, v3, v4, v5, v6, v7, v8, v9, v10, v11, v12, v13, v14, v15, v16, v17, v18, v19, hV⟩ := qlen20 hq; subst hV; obtain rfl : v3 = none := hn
          obtain ⟨z0, z1, z2, z3, zl⟩ := (HCB.out.ext hX.ext).c4
          have g2 : v2.isSome = true := hd 2 (by decide); obtain ⟨u2, rfl⟩ := Option.isSome_iff_exists.1 g2; clear g2; obtain rfl := hX.kn 2 _ (by decide) rfl
          clear hl hd hC hq
          refine StepZ.go rfl ?_
          go_simp
          exact hX.known 3 (by decide)
        · intro V W hl hn hd hX hC; have hq : V.length = 20 := hl; obtain ⟨v0, v1, v2, v3, v4, v5, v6, v7, v8, v9, v10, v11, v12, v13, v14, v15, v16, v17, v18, v19, hV⟩ := qlen20 hq; subst hV; obtain rfl : v4 = none := hn
          clear hl hd hC hq
          refine StepZ.go rfl ?_
          go_simp
          exact hX.known 4 (by decide)
        · intro V W hl hn hd hX hC; have hq : V.length = 20 := hl; obtain ⟨v0, v1, v2, v3, v4, v5, v6, v7, v8, v9, v10, v11, v12, v13, v14, v15, v16, v17, v18, v19, hV⟩ := qlen20 hq; subst hV; obtain rfl : v5 = none := hn
          obtain ⟨z0, z1, z2, z3, zl⟩ := (HLB.out.ext hX.ext).c4
          have g4 : v4.isSome = true := hd 4 (by decide); obtain ⟨u4, rfl⟩ := Option.isSome_iff_exists.1 g4; clear g4; obtain rfl := hX.kn 4 _ (by decide) rfl
          clear hl hd hC hq
          refine StepZ.go rfl ?_
          go_simp
          exact hX.known 5 (by decide)
        · intro V W hl hn hd hX hC; have hq : V.length = 20 := hl; obtain ⟨v0, v1, v2, v3, v4, v5, v6, v7, v8, v9, v10, v11, v12, v13, v14, v15, v16, v17, v18, v19, hV⟩ := qlen20 hq; subst hV; obtain rfl : v6 = none := hn
          have g3 : v3.isSome = true := hd 3 (by decide); obtain ⟨u3, rfl⟩ := Option.isSome_iff_exists.1 g3; clear g3; obtain rfl := hX.kn 3 _ (by decide) rfl
          have g5 : v5.isSome = true := hd 5 (by decide); obtain ⟨u5, rfl⟩ := Option.isSome_iff_exists.1 g5; clear g5; obtain rfl := hX.kn 5 _ (by decide) rfl
          clear hl hd hC hq
          refine StepZ.go rfl ?_
          go_simp
          exact hX.known 6 (by decide)
        · intro V W hl hn hd hX hC; have hq : V.length = 20 := hl; obtain ⟨v0, v1, v2, v3, v4, v5, v6, v7, v8, v9, v10, v11, v12, v13, v14, v15, v16, v17, v18, v19, hV⟩ := qlen20 hq; subst hV; obtain rfl : v7 = none := hn
          have g1 : v1.isSome = true := hd 1 (by decide); obtain ⟨u1, rfl⟩ := Option.isSome_iff_exists.1 g1; clear g1; obtain rfl := hX.kn 1 _ (by decide) rfl
          have g6 : v6.isSome = true := hd 6 (by decide); obtain ⟨u6, rfl⟩ := Option.isSome_iff_exists.1 g6; clear g6; obtain rfl := hX.kn 6 _ (by decide) rfl
          clear hl hd hC hq
          refine StepZ.go rfl ?_
          go_simp
          exact hX.known 7 (by decide)
        · intro V W hl hn hd hX hC; have hq : V.length = 20 := hl; obtain ⟨v0, v1, v2, v3, v4, v5, v6, v7, v8, v9, v10, v11, v12, v13, v14, v15, v16, v17, v18, v19, hV⟩ := qlen20 hq; subst hV; obtain rfl : v8 = none := hn
          clear hl hd hC hq
          refine StepZ.go rfl ?_
          go_simp
          exact hX.known 8 (by decide)
        · intro V W hl hn hd hX hC; have hq : V.length = 20 := hl; obtain ⟨v0, v1, v2, v3, v4, v5, v6, v7, v8, v9, v10, v11, v12, v13, v14, v15, v16, v17, v18, v19, hV⟩ := qlen20 hq; subst hV; obtain rfl : v9 = none := hn
          obtain ⟨z0, z1, z2, z3, zl⟩ := (HCB.out.ext hX.ext).c4
          have g8 : v8.isSome = true := hd 8 (by decide); obtain ⟨u8, rfl⟩ := Option.isSome_iff_exists.1 g8; clear g8; obtain rfl := hX.kn 8 _ (by decide) rfl
          clear hl hd hC hq
          refine StepZ.go rfl ?_
          go_simp
          exact hX.known 9 (by decide)
        · intro V W hl hn hd hX hC; have hq : V.length = 20 := hl; obtain ⟨v0, v1, v2, v3, v4, v5, v6, v7, v8, v9, v10, v11, v12, v13, v14, v15, v16, v17, v18, v19, hV⟩ := qlen20 hq; subst hV; obtain rfl : v10 = none := hn
          clear hl hd hC hq
          refine StepZ.go rfl ?_
          go_simp
          exact hX.known 10 (by decide)
        · intro V W hl hn hd hX hC; have hq : V.length = 20 := hl; obtain ⟨v0, v1, v2, v3, v4, v5, v6, v7, v8, v9, v10, v11, v12, v13, v14, v15, v16, v17, v18, v19, hV⟩ := qlen20 hq; subst hV; obtain rfl : v11 = none := hn
          obtain ⟨z0, z1, z2, z3, zl⟩ := (HCB.out.ext hX.ext).c4
          have g10 : v10.isSome = true := hd 10 (by decide); obtain ⟨u10, rfl⟩ := Option.isSome_iff_exists.1 g10; clear g10; obtain rfl := hX.kn 10 _ (by decide) rfl
          clear hl hd hC hq
          refine StepZ.go rfl ?_
          go_simp
          exact hX.known 11 (by decide)
        · intro V W hl hn hd hX hC; have hq : V.length = 20 := hl; obtain ⟨v0, v1, v2, v3, v4, v5, v6, v7, v8, v9, v10, v11, v12, v13, v14, v15, v16, v17, v18, v19, hV⟩ := qlen20 hq; subst hV; obtain rfl : v12 = none := hn
          clear hl hd hC hq
          refine StepZ.go rfl ?_
          go_simp
          exact hX.known 12 (by decide)
        · intro V W hl hn hd hX hC; have hq : V.length = 20 := hl; obtain ⟨v0, v1, v2, v3, v4, v5, v6, v7, v8, v9, v10, v11, v12, v13, v14, v15, v16, v17, v18, v19, hV⟩ := qlen20 hq; subst hV; obtain rfl : v13 = none := hn
          obtain ⟨z0, z1, z2, z3, zl⟩ := (HLB.out.ext hX.ext).c4
          have g12 : v12.isSome = true := hd 12 (by decide); obtain ⟨u12, rfl⟩ := Option.isSome_iff_exists.1 g12; clear g12; obtain rfl := hX.kn 12 _ (by decide) rfl
          clear hl hd hC hq
          refine StepZ.go rfl ?_
          go_simp
          exact hX.known 13 (by decide)
        · intro V W hl hn hd hX hC; have hq : V.length = 20 := hl; obtain ⟨v0, v1, v2, v3, v4, v5, v6, v7, v8, v9, v10, v11, v12, v13, v14, v15, v16, v17, v18, v19, hV⟩ := qlen20 hq; subst hV; obtain rfl : v14 = none := hn
          have g11 : v11.isSome = true := hd 11 (by decide); obtain ⟨u11, rfl⟩ := Option.isSome_iff_exists.1 g11; clear g11; obtain rfl := hX.kn 11 _ (by decide) rfl
          have g13 : v13.isSome = true := hd 13 (by decide); obtain ⟨u13, rfl⟩ := Option.isSome_iff_exists.1 g13; clear g13; obtain rfl := hX.kn 13 _ (by decide) rfl
          clear hl hd hC hq
          refine StepZ.go rfl ?_
          go_simp
          exact hX.known 14 (by decide)
        · intro V W hl hn hd hX hC; have hq : V.length = 20 := hl; obtain ⟨v0, v1, v2, v3, v4, v5, v6, v7, v8, v9, v10, v11, v12, v13, v14, v15, v16, v17, v18, v19, hV⟩ := qlen20 hq; subst hV; obtain rfl : v15 = none := hn
          have g9 : v9.isSome = true := hd 9 (by decide); obtain ⟨u9, rfl⟩ := Option.isSome_iff_exists.1 g9; clear g9; obtain rfl := hX.kn 9 _ (by decide) rfl
          have g14 : v14.isSome = true := hd 14 (by decide); obtain ⟨u14, rfl⟩ := Option.isSome_iff_exists.1 g14; clear g14; obtain rfl := hX.kn 14 _ (by decide) rfl
          clear hl hd hC hq
          refine StepZ.go rfl ?_
          go_simp
          exact hX.known 15 (by decide)
        · intro V W hl hn hd hX hC; have hq : V.length = 20 := hl; obtain ⟨v0, v1, v2, v3, v4, v5, v6, v7, v8, v9, v10, v11, v12, v13, v14, v15, v16, v17, v18, v19, hV⟩ := qlen20 hq; subst hV; obtain rfl : v16 = none := hn
          have h9 : v18 = none := none_of (fun e => hC 18 _ rfl e 16 (by decide)) rfl
          subst h9
          clear hl hd hC hq
          refine StepZ.go rfl ?_
          go_simp
          exact hX.alloc16 rfl rfl
        · intro V W hl hn hd hX hC; have hq : V.length = 20 := hl; obtain ⟨v0, v1, v2, v3, v4, v5, v6, v7, v8, v9, v10, v11, v12, v13, v14, v15, v16, v17, v18, v19, hV⟩ := qlen20 hq; subst hV; obtain rfl : v17 = none := hn
          have h9 : v19 = none := none_of (fun e => hC 19 _ rfl e 17 (by decide)) rfl
          subst h9
          clear hl hd hC hq
          refine StepZ.go rfl ?_
          go_simp
          exact hX.alloc17 rfl rfl
        · intro V W hl hn hd hX hC; have hq : V.length = 20 := hl; obtain ⟨v0, v1, v2, v3, v4, v5, v6, v7, v8, v9, v10, v11, v12, v13, v14, v15, v16, v17, v18, v19, hV⟩ := qlen20 hq; subst hV; obtain rfl : v18 = none := hn
          have g7 : v7.isSome = true := hd 7 (by decide); obtain ⟨u7, rfl⟩ := Option.isSome_iff_exists.1 g7; clear g7; obtain rfl := hX.kn 7 _ (by decide) rfl
          have g16 : v16.isSome = true := hd 16 (by decide)
          obtain ⟨u16, rfl⟩ := Option.isSome_iff_exists.1 g16
          obtain ⟨pp, rfl, hpz, hpb⟩ := hX.p16 _ rfl
          have hpb' : Blk W pp 47 #[.int .i64 0, .int .i64 0] := hpb
          obtain ⟨z0, z1, _, _, zl⟩ := hpb'.c2
          have F := hpb'.frozen
          have hst := hX.store18 pp rfl rfl
          clear hl hd hC hq hpb hpb'
          refine StepZ.go rfl ?_
          go_simp
          exact ⟨rfl, hst undef⟩
        · intro V W hl hn hd hX hC; have hq : V.length = 20 := hl; obtain ⟨v0, v1, v2, v3, v4, v5, v6, v7, v8, v9, v10, v11, v12, v13, v14, v15, v16, v17, v18, v19, hV⟩ := qlen20 hq; subst hV; obtain rfl : v19 = none := hn
          have g15 : v15.isSome = true := hd 15 (by decide); obtain ⟨u15, rfl⟩ := Option.isSome_iff_exists.1 g15; clear g15; obtain rfl := hX.kn 15 _ (by decide) rfl
          have g17 : v17.isSome = true := hd 17 (by decide)
          obtain ⟨u17, rfl⟩ := Option.isSome_iff_exists.1 g17
          obtain ⟨pp, rfl, hpz, hpb⟩ := hX.p17 _ rfl
          have hpb' : Blk W pp 47 #[.int .i64 0, .int .i64 0] := hpb
          obtain ⟨z0, z1, _, _, zl⟩ := hpb'.c2
          have F := hpb'.frozen
          have hst := hX.store19 pp rfl rfl
          clear hl hd hC hq hpb hpb'
          refine StepZ.go rfl ?_
          go_simp
          exact ⟨rfl, hst undef⟩
        · intro V W hl hV hX
          have hq : V.length = 20 := hl
          obtain ⟨v0, v1, v2, v3, v4, v5, v6, v7, v8, v9, v10, v11, v12, v13, v14, v15, v16, v17, v18, v19, hW⟩ := qlen20 hq
          subst hW
          have g16 : v16.isSome = true := hV 16 (by decide)
          have g17 : v17.isSome = true := hV 17 (by decide)
          have g18 : v18.isSome = true := hV 18 (by decide)
          have g19 : v19.isSome = true := hV 19 (by decide)
          obtain ⟨u16, rfl⟩ := Option.isSome_iff_exists.1 g16
          obtain ⟨u17, rfl⟩ := Option.isSome_iff_exists.1 g17
          obtain ⟨u18, rfl⟩ := Option.isSome_iff_exists.1 g18
          obtain ⟨u19, rfl⟩ := Option.isSome_iff_exists.1 g19
          obtain ⟨pa, rfl, hpz, hpa⟩ := hX.p16 _ rfl
          obtain ⟨pb, rfl, hqz, hpb⟩ := hX.p17 _ rfl
          have hne : pa ≠ pb := fun e => hX.ne _ _ rfl rfl (by rw [e])
          have HPA : Hid (Blk W pa 47 #[.int .i64 (2 * (i : Int) + 1), .int .i64 0]) := Lib.hid hpa
          have HPB : Hid (Blk W pb 47 #[.int .i64 (2 * (i : Int) + 2), .int .i64 0]) := Lib.hid hpb
          have HXW := Lib.hid (HXZ.out.trans hX.ext)
          have HXQ := Lib.hid hX.ext
          have hpal : wr.heap.size ≤ pa := Nat.le_trans HXZ.out.size hpz
          have hpbl : wr.heap.size ≤ pb := Nat.le_trans HXZ.out.size hqz
          clear hpz hqz
          clear hl hV hq g16 g17 g18 g19 hX HQ0 hpa hpb c0 c1 c2 c3 l0 l1 l2 l3 s0 s1 s2 sl hlw hcw
          simp only [putAll, known, List.map_cons, List.map_nil, Act.put, List.setIfInBounds_toArray, List.set_cons_zero, List.set_cons_succ, Option.getD_some]
          obtain ⟨a0, a1, _, _, al⟩ := HPA.out.c2
          obtain ⟨b0, b1, _, _, bl⟩ := HPB.out.c2
          have FA := HPA.out.frozen
          have FB := HPB.out.frozen
          have hxw := HXW.out
          have hwl : w0.heap.size ≤ W.heap.size := Nat.le_trans HSZ.out hxw.size
          have hi64 : i ≤ 32 := by omega
          obtain ⟨z0, z1, z2, z3, zl⟩ := (HLB.out.ext HXQ.out).c4
          go_upto_region 9 with fail
          have HX9 : Hid (Ext wr (W)) := Lib.hid (by repeat (first | exact Ext.refl _ | assumption | refine Ext.alloc ?_ _ | refine Ext.drew ?_ | refine Ext.drewN ?_ _ | (refine Ext.setCell ?_ (by simp <;> omega) _) | refine Ext.trans ?_ (by assumption)))
          have HA9 : Hid (Blk (W) pa 47 #[.int .i64 (2 * (i : Int) + 1), .int .i64 0]) := Lib.hid (HPA.out)
          have HB9 : Hid (Blk (W) pb 47 #[.int .i64 (2 * (i : Int) + 2), .int .i64 0]) := Lib.hid (HPB.out)
          clear a0 a1 al b0 b1 bl FA FB z0 z1 z2 z3 zl hxw hwl
          generalize W = W9 at *
          obtain ⟨a0, a1, _, _, al⟩ := HA9.out.c2
          obtain ⟨b0, b1, _, _, bl⟩ := HB9.out.c2
          have hwl : w0.heap.size ≤ W9.heap.size := Nat.le_trans HSZ.out HX9.out.size
          go_wp2_with (first | (at_builtin; refine list_appendC pageElt rfl (.tmp 50) (.tmp 53) rfl w0.heap.size (i * 2) u5 (pgCells (i * 2)) (by go_simp) ((own_later HO.out HX9.out).alloc _) (some ⟨W9.heap.size, 0, none⟩) 2 2 [.int .i64 (2 * (i : Int) + 1), .int .i64 0, .int .i64 (2 * (i : Int) + 2), .int .i64 0] (by go_simp) (RC.blk (n := 2) (size := 2) (Blk.new _ _ _) rfl (by omega)) (fun y hy => by simp only [List.mem_cons, List.not_mem_nil, or_false] at hy; rcases hy with rfl | rfl | rfl | rfl <;> rfl) (by omega) (by simp; omega) ?_; intro v' w' ho hg; rw [← HPG.out] at ho; have HO2 := Lib.hid ho; have HX2 := Lib.hid (own_grown ((own_later HO.out HX9.out).alloc _) hg ((HX.out.trans HX9.out).alloc _) (Nat.le_refl _)); clear ho hg))
          go_roundw
          case rel => exact ⟨i + 1, by omega, by go_num, Lib.hid (by rw [Nat.add_mul]; exact HO2.out), HX2⟩
          case measure => simp [intOf]; omega
      ·
        simp only [cellOf] at c0 c1 c2 c3
        simp at c0 c1 c2 c3
        go_upto_region 6 with fail
        have HXZ0 : Hid (Ext wr ((wr.alloc (.cells #[.int .i64 xc, .int .i64 xr, .int .i64 0, .int .i64 1] 90)).alloc (.cells #[.int .i64 (2 * (i : Int) + 1), .int .i64 1, .int .i64 (2 * (i : Int) + 2), .int .i64 1] 80))) := Lib.hid (by repeat (first | exact Ext.refl _ | assumption | refine Ext.alloc ?_ _ | refine Ext.drew ?_ | refine Ext.drewN ?_ _ | (refine Ext.setCell ?_ (by simp <;> omega) _) | refine Ext.trans ?_ (by assumption)))
        have HLB0 := Lib.hid ((Blk.new wr 90 #[.int .i64 xc, .int .i64 xr, .int .i64 0, .int .i64 1]).alloc (.cells #[.int .i64 (2 * (i : Int) + 1), .int .i64 1, .int .i64 (2 * (i : Int) + 2), .int .i64 1] 80))
        have HCB0 := Lib.hid (Blk.new1 wr (.cells #[.int .i64 xc, .int .i64 xr, .int .i64 0, .int .i64 1] 90) 80 #[.int .i64 (2 * (i : Int) + 1), .int .i64 1, .int .i64 (2 * (i : Int) + 2), .int .i64 1])
        generalize ((wr.alloc (.cells #[.int .i64 xc, .int .i64 xr, .int .i64 0, .int .i64 1] 90)).alloc (.cells #[.int .i64 (2 * (i : Int) + 1), .int .i64 1, .int .i64 (2 * (i : Int) + 2), .int .i64 1] 80)) = wz at *
        have HXZ := HXZ0
        have HLB := HLB0
        have HCB := HCB0
        clear HXZ0 HLB0 HCB0
        obtain ⟨q8, hq8⟩ : ∃ q8, wr.heap.size + 1 = q8 := ⟨_, rfl⟩
        rw [hq8] at HCB ⊢
        clear hq8
        obtain ⟨q7, hq7⟩ : ∃ q7, wr.heap.size = q7 := ⟨_, rfl⟩
        rw [hq7] at HLB ⊢
        clear hq7
        have HQ0 : Hid (QP wz (2 * (i : Int) + 1) (2 * (i : Int) + 2) [.pointer (some ⟨q8, 0, none⟩), .int .i64 (2 * (i : Int) + 1), .pointer (some ⟨q8, 1, none⟩), .int .i64 1, .pointer (some ⟨q7, 3, none⟩), .int .i64 1, .int .i64 0, .agg #[.int .i64 (2 * (i : Int) + 1), .int .i64 0], .pointer (some ⟨q8, 2, none⟩), .int .i64 (2 * (i : Int) + 2), .pointer (some ⟨q8, 3, none⟩), .int .i64 1, .pointer (some ⟨q7, 3, none⟩), .int .i64 1, .int .i64 0, .agg #[.int .i64 (2 * (i : Int) + 2), .int .i64 0]] (List.replicate 20 none) wz.drew) := Lib.hid (QP.start ((Ext.refl wz).drew))
        refine wp_region_q (QP wz (2 * (i : Int) + 1) (2 * (i : Int) + 2) _) (by kernel_rfl) (by kernel_rfl) HQ0.out ⟨?_, ?_, ?_, ?_, ?_, ?_, ?_, ?_, ?_, ?_, ?_, ?_, ?_, ?_, ?_, ?_, ?_, ?_, ?_, ?_, trivial⟩ ?_
        · intro V W hl hn hd hX hC; have hq : V.length = 20 := hl; obtain ⟨v0, v1, v2, v3, v4, v5, v6, v7, v8, v9, v10, v11, v12, v13, v14, v15, v16, v17, v18, v19, hV⟩ := qlen20 hq; subst hV; obtain rfl : v0 = none := hn
          clear hl hd hC hq
          refine StepZ.go rfl ?_
          go_simp
          exact hX.known 0 (by decide)
        · intro V W hl hn hd hX hC; have hq : V.length = 20 := hl; obtain ⟨v0, v1, v2, v3, v4, v5, v6, v7, v8, v9, v10, v11, v12, v13, v14, v15, v16, v17, v18, v19, hV⟩ := qlen20 hq; subst hV; obtain rfl : v1 = none := hn
          obtain ⟨z0, z1, z2, z3, zl⟩ := (HCB.out.ext hX.ext).c4
          have g0 : v0.isSome = true := hd 0 (by decide); obtain ⟨u0, rfl⟩ := Option.isSome_iff_exists.1 g0; clear g0; obtain rfl := hX.kn 0 _ (by decide) rfl
          clear hl hd hC hq
          refine StepZ.go rfl ?_
          go_simp
          exact hX.known 1 (by decide)
        · intro V W hl hn hd hX hC; have hq : V.length = 20 := hl; obtain ⟨v0, v1, v2, v3, v4, v5, v6, v7, v8, v9, v10, v11, v12, v13, v14, v15, v16, v17, v18, v19, hV⟩ := qlen20 hq; subst hV; obtain rfl : v2 = none := hn
          clear hl hd hC hq
          refine StepZ.go rfl ?_
          go_simp
          exact hX.known 2 (by decide)
        · intro V W hl hn hd hX hC; have hq : V.length = 20 := hl; obtain ⟨v0, v1, v2, v3, v4, v5, v6, v7, v8, v9, v10, v11, v12, v13, v14, v15, v16, v17, v18, v19, hV⟩ := qlen20 hq; subst hV; obtain rfl : v3 = none := hn
          obtain ⟨z0, z1, z2, z3, zl⟩ := (HCB.out.ext hX.ext).c4
          have g2 : v2.isSome = true := hd 2 (by decide); obtain ⟨u2, rfl⟩ := Option.isSome_iff_exists.1 g2; clear g2; obtain rfl := hX.kn 2 _ (by decide) rfl
          clear hl hd hC hq
          refine StepZ.go rfl ?_
          go_simp
          exact hX.known 3 (by decide)
        · intro V W hl hn hd hX hC; have hq : V.length = 20 := hl; obtain ⟨v0, v1, v2, v3, v4, v5, v6, v7, v8, v9, v10, v11, v12, v13, v14, v15, v16, v17, v18, v19, hV⟩ := qlen20 hq; subst hV; obtain rfl : v4 = none := hn
          clear hl hd hC hq
          refine StepZ.go rfl ?_
          go_simp
          exact hX.known 4 (by decide)
        · intro V W hl hn hd hX hC; have hq : V.length = 20 := hl; obtain ⟨v0, v1, v2, v3, v4, v5, v6, v7, v8, v9, v10, v11, v12, v13, v14, v15, v16, v17, v18, v19, hV⟩ := qlen20 hq; subst hV; obtain rfl : v5 = none := hn
          obtain ⟨z0, z1, z2, z3, zl⟩ := (HLB.out.ext hX.ext).c4
          have g4 : v4.isSome = true := hd 4 (by decide); obtain ⟨u4, rfl⟩ := Option.isSome_iff_exists.1 g4; clear g4; obtain rfl := hX.kn 4 _ (by decide) rfl
          clear hl hd hC hq
          refine StepZ.go rfl ?_
          go_simp
          exact hX.known 5 (by decide)
        · intro V W hl hn hd hX hC; have hq : V.length = 20 := hl; obtain ⟨v0, v1, v2, v3, v4, v5, v6, v7, v8, v9, v10, v11, v12, v13, v14, v15, v16, v17, v18, v19, hV⟩ := qlen20 hq; subst hV; obtain rfl : v6 = none := hn
          have g3 : v3.isSome = true := hd 3 (by decide); obtain ⟨u3, rfl⟩ := Option.isSome_iff_exists.1 g3; clear g3; obtain rfl := hX.kn 3 _ (by decide) rfl
          have g5 : v5.isSome = true := hd 5 (by decide); obtain ⟨u5, rfl⟩ := Option.isSome_iff_exists.1 g5; clear g5; obtain rfl := hX.kn 5 _ (by decide) rfl
          clear hl hd hC hq
          refine StepZ.go rfl ?_
          go_simp
          exact hX.known 6 (by decide)
        · intro V W hl hn hd hX hC; have hq : V.length = 20 := hl; obtain ⟨v0, v1, v2, v3, v4, v5, v6, v7, v8, v9, v10, v11, v12, v13, v14, v15, v16, v17, v18, v19, hV⟩ := qlen20 hq; subst hV; obtain rfl : v7 = none := hn
          have g1 : v1.isSome = true := hd 1 (by decide); obtain ⟨u1, rfl⟩ := Option.isSome_iff_exists.1 g1; clear g1; obtain rfl := hX.kn 1 _ (by decide) rfl
          have g6 : v6.isSome = true := hd 6 (by decide); obtain ⟨u6, rfl⟩ := Option.isSome_iff_exists.1 g6; clear g6; obtain rfl := hX.kn 6 _ (by decide) rfl
          clear hl hd hC hq
          refine StepZ.go rfl ?_
          go_simp
          exact hX.known 7 (by decide)
        · intro V W hl hn hd hX hC; have hq : V.length = 20 := hl; obtain ⟨v0, v1, v2, v3, v4, v5, v6, v7, v8, v9, v10, v11, v12, v13, v14, v15, v16, v17, v18, v19, hV⟩ := qlen20 hq; subst hV; obtain rfl : v8 = none := hn
          clear hl hd hC hq
          refine StepZ.go rfl ?_
          go_simp
          exact hX.known 8 (by decide)
        · intro V W hl hn hd hX hC; have hq : V.length = 20 := hl; obtain ⟨v0, v1, v2, v3, v4, v5, v6, v7, v8, v9, v10, v11, v12, v13, v14, v15, v16, v17, v18, v19, hV⟩ := qlen20 hq; subst hV; obtain rfl : v9 = none := hn
          obtain ⟨z0, z1, z2, z3, zl⟩ := (HCB.out.ext hX.ext).c4
          have g8 : v8.isSome = true := hd 8 (by decide); obtain ⟨u8, rfl⟩ := Option.isSome_iff_exists.1 g8; clear g8; obtain rfl := hX.kn 8 _ (by decide) rfl
          clear hl hd hC hq
          refine StepZ.go rfl ?_
          go_simp
          exact hX.known 9 (by decide)
        · intro V W hl hn hd hX hC; have hq : V.length = 20 := hl; obtain ⟨v0, v1, v2, v3, v4, v5, v6, v7, v8, v9, v10, v11, v12, v13, v14, v15, v16, v17, v18, v19, hV⟩ := qlen20 hq; subst hV; obtain rfl : v10 = none := hn
          clear hl hd hC hq
          refine StepZ.go rfl ?_
          go_simp
          exact hX.known 10 (by decide)
        · intro V W hl hn hd hX hC; have hq : V.length = 20 := hl; obtain ⟨v0, v1, v2, v3, v4, v5, v6, v7, v8, v9, v10, v11, v12, v13, v14, v15, v16, v17, v18, v19, hV⟩ := qlen20 hq; subst hV; obtain rfl : v11 = none := hn
          obtain ⟨z0, z1, z2, z3, zl⟩ := (HCB.out.ext hX.ext).c4
          have g10 : v10.isSome = true := hd 10 (by decide); obtain ⟨u10, rfl⟩ := Option.isSome_iff_exists.1 g10; clear g10; obtain rfl := hX.kn 10 _ (by decide) rfl
          clear hl hd hC hq
          refine StepZ.go rfl ?_
          go_simp
          exact hX.known 11 (by decide)
        · intro V W hl hn hd hX hC; have hq : V.length = 20 := hl; obtain ⟨v0, v1, v2, v3, v4, v5, v6, v7, v8, v9, v10, v11, v12, v13, v14, v15, v16, v17, v18, v19, hV⟩ := qlen20 hq; subst hV; obtain rfl : v12 = none := hn
          clear hl hd hC hq
          refine StepZ.go rfl ?_
          go_simp
          exact hX.known 12 (by decide)
        · intro V W hl hn hd hX hC; have hq : V.length = 20 := hl; obtain ⟨v0, v1, v2, v3, v4, v5, v6, v7, v8, v9, v10, v11, v12, v13, v14, v15, v16, v17, v18, v19, hV⟩ := qlen20 hq; subst hV; obtain rfl : v13 = none := hn
          obtain ⟨z0, z1, z2, z3, zl⟩ := (HLB.out.ext hX.ext).c4
          have g12 : v12.isSome = true := hd 12 (by decide); obtain ⟨u12, rfl⟩ := Option.isSome_iff_exists.1 g12; clear g12; obtain rfl := hX.kn 12 _ (by decide) rfl
          clear hl hd hC hq
          refine StepZ.go rfl ?_
          go_simp
          exact hX.known 13 (by decide)
        · intro V W hl hn hd hX hC; have hq : V.length = 20 := hl; obtain ⟨v0, v1, v2, v3, v4, v5, v6, v7, v8, v9, v10, v11, v12, v13, v14, v15, v16, v17, v18, v19, hV⟩ := qlen20 hq; subst hV; obtain rfl : v14 = none := hn
          have g11 : v11.isSome = true := hd 11 (by decide); obtain ⟨u11, rfl⟩ := Option.isSome_iff_exists.1 g11; clear g11; obtain rfl := hX.kn 11 _ (by decide) rfl
          have g13 : v13.isSome = true := hd 13 (by decide); obtain ⟨u13, rfl⟩ := Option.isSome_iff_exists.1 g13; clear g13; obtain rfl := hX.kn 13 _ (by decide) rfl
          clear hl hd hC hq
          refine StepZ.go rfl ?_
          go_simp
          exact hX.known 14 (by decide)
        · intro V W hl hn hd hX hC; have hq : V.length = 20 := hl; obtain ⟨v0, v1, v2, v3, v4, v5, v6, v7, v8, v9, v10, v11, v12, v13, v14, v15, v16, v17, v18, v19, hV⟩ := qlen20 hq; subst hV; obtain rfl : v15 = none := hn
          have g9 : v9.isSome = true := hd 9 (by decide); obtain ⟨u9, rfl⟩ := Option.isSome_iff_exists.1 g9; clear g9; obtain rfl := hX.kn 9 _ (by decide) rfl
          have g14 : v14.isSome = true := hd 14 (by decide); obtain ⟨u14, rfl⟩ := Option.isSome_iff_exists.1 g14; clear g14; obtain rfl := hX.kn 14 _ (by decide) rfl
          clear hl hd hC hq
          refine StepZ.go rfl ?_
          go_simp
          exact hX.known 15 (by decide)
        · intro V W hl hn hd hX hC; have hq : V.length = 20 := hl; obtain ⟨v0, v1, v2, v3, v4, v5, v6, v7, v8, v9, v10, v11, v12, v13, v14, v15, v16, v17, v18, v19, hV⟩ := qlen20 hq; subst hV; obtain rfl : v16 = none := hn
          have h9 : v18 = none := none_of (fun e => hC 18 _ rfl e 16 (by decide)) rfl
          subst h9
          clear hl hd hC hq
          refine StepZ.go rfl ?_
          go_simp
          exact hX.alloc16 rfl rfl
        · intro V W hl hn hd hX hC; have hq : V.length = 20 := hl; obtain ⟨v0, v1, v2, v3, v4, v5, v6, v7, v8, v9, v10, v11, v12, v13, v14, v15, v16, v17, v18, v19, hV⟩ := qlen20 hq; subst hV; obtain rfl : v17 = none := hn
          have h9 : v19 = none := none_of (fun e => hC 19 _ rfl e 17 (by decide)) rfl
          subst h9
          clear hl hd hC hq
          refine StepZ.go rfl ?_
          go_simp
          exact hX.alloc17 rfl rfl
        · intro V W hl hn hd hX hC; have hq : V.length = 20 := hl; obtain ⟨v0, v1, v2, v3, v4, v5, v6, v7, v8, v9, v10, v11, v12, v13, v14, v15, v16, v17, v18, v19, hV⟩ := qlen20 hq; subst hV; obtain rfl : v18 = none := hn
          have g7 : v7.isSome = true := hd 7 (by decide); obtain ⟨u7, rfl⟩ := Option.isSome_iff_exists.1 g7; clear g7; obtain rfl := hX.kn 7 _ (by decide) rfl
          have g16 : v16.isSome = true := hd 16 (by decide)
          obtain ⟨u16, rfl⟩ := Option.isSome_iff_exists.1 g16
          obtain ⟨pp, rfl, hpz, hpb⟩ := hX.p16 _ rfl
          have hpb' : Blk W pp 47 #[.int .i64 0, .int .i64 0] := hpb
          obtain ⟨z0, z1, _, _, zl⟩ := hpb'.c2
          have F := hpb'.frozen
          have hst := hX.store18 pp rfl rfl
          clear hl hd hC hq hpb hpb'
          refine StepZ.go rfl ?_
          go_simp
          exact ⟨rfl, hst undef⟩
        · intro V W hl hn hd hX hC; have hq : V.length = 20 := hl; obtain ⟨v0, v1, v2, v3, v4, v5, v6, v7, v8, v9, v10, v11, v12, v13, v14, v15, v16, v17, v18, v19, hV⟩ := qlen20 hq; subst hV; obtain rfl : v19 = none := hn
          have g15 : v15.isSome = true := hd 15 (by decide); obtain ⟨u15, rfl⟩ := Option.isSome_iff_exists.1 g15; clear g15; obtain rfl := hX.kn 15 _ (by decide) rfl
          have g17 : v17.isSome = true := hd 17 (by decide)
          obtain ⟨u17, rfl⟩ := Option.isSome_iff_exists.1 g17
          obtain ⟨pp, rfl, hpz, hpb⟩ := hX.p17 _ rfl
          have hpb' : Blk W pp 47 #[.int .i64 0, .int .i64 0] := hpb
          obtain ⟨z0, z1, _, _, zl⟩ := hpb'.c2
          have F := hpb'.frozen
          have hst := hX.store19 pp rfl rfl
          clear hl hd hC hq hpb hpb'
          refine StepZ.go rfl ?_
          go_simp
          exact ⟨rfl, hst undef⟩
        · intro V W hl hV hX
          have hq : V.length = 20 := hl
          obtain ⟨v0, v1, v2, v3, v4, v5, v6, v7, v8, v9, v10, v11, v12, v13, v14, v15, v16, v17, v18, v19, hW⟩ := qlen20 hq
          subst hW
          have g16 : v16.isSome = true := hV 16 (by decide)
          have g17 : v17.isSome = true := hV 17 (by decide)
          have g18 : v18.isSome = true := hV 18 (by decide)
          have g19 : v19.isSome = true := hV 19 (by decide)
          obtain ⟨u16, rfl⟩ := Option.isSome_iff_exists.1 g16
          obtain ⟨u17, rfl⟩ := Option.isSome_iff_exists.1 g17
          obtain ⟨u18, rfl⟩ := Option.isSome_iff_exists.1 g18
          obtain ⟨u19, rfl⟩ := Option.isSome_iff_exists.1 g19
          obtain ⟨pa, rfl, hpz, hpa⟩ := hX.p16 _ rfl
          obtain ⟨pb, rfl, hqz, hpb⟩ := hX.p17 _ rfl
          have hne : pa ≠ pb := fun e => hX.ne _ _ rfl rfl (by rw [e])
          have HPA : Hid (Blk W pa 47 #[.int .i64 (2 * (i : Int) + 1), .int .i64 0]) := Lib.hid hpa
          have HPB : Hid (Blk W pb 47 #[.int .i64 (2 * (i : Int) + 2), .int .i64 0]) := Lib.hid hpb
          have HXW := Lib.hid (HXZ.out.trans hX.ext)
          have HXQ := Lib.hid hX.ext
          have hpal : wr.heap.size ≤ pa := Nat.le_trans HXZ.out.size hpz
          have hpbl : wr.heap.size ≤ pb := Nat.le_trans HXZ.out.size hqz
          clear hpz hqz
          clear hl hV hq g16 g17 g18 g19 hX HQ0 hpa hpb c0 c1 c2 c3 l0 l1 l2 l3 s0 s1 s2 sl hlw hcw
          simp only [putAll, known, List.map_cons, List.map_nil, Act.put, List.setIfInBounds_toArray, List.set_cons_zero, List.set_cons_succ, Option.getD_some]
          obtain ⟨a0, a1, _, _, al⟩ := HPA.out.c2
          obtain ⟨b0, b1, _, _, bl⟩ := HPB.out.c2
          have FA := HPA.out.frozen
          have FB := HPB.out.frozen
          have hxw := HXW.out
          have hwl : w0.heap.size ≤ W.heap.size := Nat.le_trans HSZ.out hxw.size
          have hi64 : i ≤ 32 := by omega
          obtain ⟨z0, z1, z2, z3, zl⟩ := (HLB.out.ext HXQ.out).c4
          go_upto_region 9 with fail
          have HX9 : Hid (Ext wr (W)) := Lib.hid (by repeat (first | exact Ext.refl _ | assumption | refine Ext.alloc ?_ _ | refine Ext.drew ?_ | refine Ext.drewN ?_ _ | (refine Ext.setCell ?_ (by simp <;> omega) _) | refine Ext.trans ?_ (by assumption)))
          have HA9 : Hid (Blk (W) pa 47 #[.int .i64 (2 * (i : Int) + 1), .int .i64 0]) := Lib.hid (HPA.out)
          have HB9 : Hid (Blk (W) pb 47 #[.int .i64 (2 * (i : Int) + 2), .int .i64 0]) := Lib.hid (HPB.out)
          clear a0 a1 al b0 b1 bl FA FB z0 z1 z2 z3 zl hxw hwl
          generalize W = W9 at *
          obtain ⟨a0, a1, _, _, al⟩ := HA9.out.c2
          obtain ⟨b0, b1, _, _, bl⟩ := HB9.out.c2
          have hwl : w0.heap.size ≤ W9.heap.size := Nat.le_trans HSZ.out HX9.out.size
          go_wp2_with (first | (at_builtin; refine list_appendC pageElt rfl (.tmp 50) (.tmp 53) rfl w0.heap.size (i * 2) u5 (pgCells (i * 2)) (by go_simp) ((own_later HO.out HX9.out).alloc _) (some ⟨W9.heap.size, 0, none⟩) 2 2 [.int .i64 (2 * (i : Int) + 1), .int .i64 0, .int .i64 (2 * (i : Int) + 2), .int .i64 0] (by go_simp) (RC.blk (n := 2) (size := 2) (Blk.new _ _ _) rfl (by omega)) (fun y hy => by simp only [List.mem_cons, List.not_mem_nil, or_false] at hy; rcases hy with rfl | rfl | rfl | rfl <;> rfl) (by omega) (by simp; omega) ?_; intro v' w' ho hg; rw [← HPG.out] at ho; have HO2 := Lib.hid ho; have HX2 := Lib.hid (own_grown ((own_later HO.out HX9.out).alloc _) hg ((HX.out.trans HX9.out).alloc _) (Nat.le_refl _)); clear ho hg))
          go_roundw
          case rel => exact ⟨i + 1, by omega, by go_num, Lib.hid (by rw [Nat.add_mul]; exact HO2.out), HX2⟩
          case measure => simp [intOf]; omega
      ·
        simp only [cellOf] at c0 c1 c2 c3
        simp at c0 c1 c2 c3
        go_upto_region 6 with fail
        have HXZ0 : Hid (Ext wr ((wr.alloc (.cells #[.int .i64 xc, .int .i64 xr, .int .i64 1, .int .i64 0] 90)).alloc (.cells #[.int .i64 (2 * (i : Int) + 2), .int .i64 0, .int .i64 (2 * (i : Int) + 1), .int .i64 0] 80))) := Lib.hid (by repeat (first | exact Ext.refl _ | assumption | refine Ext.alloc ?_ _ | refine Ext.drew ?_ | refine Ext.drewN ?_ _ | (refine Ext.setCell ?_ (by simp <;> omega) _) | refine Ext.trans ?_ (by assumption)))
        have HLB0 := Lib.hid ((Blk.new wr 90 #[.int .i64 xc, .int .i64 xr, .int .i64 1, .int .i64 0]).alloc (.cells #[.int .i64 (2 * (i : Int) + 2), .int .i64 0, .int .i64 (2 * (i : Int) + 1), .int .i64 0] 80))
        have HCB0 := Lib.hid (Blk.new1 wr (.cells #[.int .i64 xc, .int .i64 xr, .int .i64 1, .int .i64 0] 90) 80 #[.int .i64 (2 * (i : Int) + 2), .int .i64 0, .int .i64 (2 * (i : Int) + 1), .int .i64 0])
        generalize ((wr.alloc (.cells #[.int .i64 xc, .int .i64 xr, .int .i64 1, .int .i64 0] 90)).alloc (.cells #[.int .i64 (2 * (i : Int) + 2), .int .i64 0, .int .i64 (2 * (i : Int) + 1), .int .i64 0] 80)) = wz at *
        have HXZ := HXZ0
        have HLB := HLB0
        have HCB := HCB0
        clear HXZ0 HLB0 HCB0
        obtain ⟨q8, hq8⟩ : ∃ q8, wr.heap.size + 1 = q8 := ⟨_, rfl⟩
        rw [hq8] at HCB ⊢
        clear hq8
        obtain ⟨q7, hq7⟩ : ∃ q7, wr.heap.size = q7 := ⟨_, rfl⟩
        rw [hq7] at HLB ⊢
        clear hq7
        have HQ0 : Hid (QP wz (2 * (i : Int) + 2) (2 * (i : Int) + 1) [.pointer (some ⟨q8, 0, none⟩), .int .i64 (2 * (i : Int) + 2), .pointer (some ⟨q8, 1, none⟩), .int .i64 0, .pointer (some ⟨q7, 3, none⟩), .int .i64 0, .int .i64 0, .agg #[.int .i64 (2 * (i : Int) + 2), .int .i64 0], .pointer (some ⟨q8, 2, none⟩), .int .i64 (2 * (i : Int) + 1), .pointer (some ⟨q8, 3, none⟩), .int .i64 0, .pointer (some ⟨q7, 3, none⟩), .int .i64 0, .int .i64 0, .agg #[.int .i64 (2 * (i : Int) + 1), .int .i64 0]] (List.replicate 20 none) wz.drew) := Lib.hid (QP.start ((Ext.refl wz).drew))
        refine wp_region_q (QP wz (2 * (i : Int) + 2) (2 * (i : Int) + 1) _) (by kernel_rfl) (by kernel_rfl) HQ0.out ⟨?_, ?_, ?_, ?_, ?_, ?_, ?_, ?_, ?_, ?_, ?_, ?_, ?_, ?_, ?_, ?_, ?_, ?_, ?_, ?_, trivial⟩ ?_
        · intro V W hl hn hd hX hC; have hq : V.length = 20 := hl; obtain ⟨v0, v1, v2, v3, v4, v5, v6, v7, v8, v9, v10, v11, v12, v13, v14, v15, v16, v17, v18, v19, hV⟩ := qlen20 hq; subst hV; obtain rfl : v0 = none := hn
          clear hl hd hC hq
          refine StepZ.go rfl ?_
          go_simp
          exact hX.known 0 (by decide)
        · intro V W hl hn hd hX hC; have hq : V.length = 20 := hl; obtain ⟨v0, v1, v2, v3, v4, v5, v6, v7, v8, v9, v10, v11, v12, v13, v14, v15, v16, v17, v18, v19, hV⟩ := qlen20 hq; subst hV; obtain rfl : v1 = none := hn
          obtain ⟨z0, z1, z2, z3, zl⟩ := (HCB.out.ext hX.ext).c4
          have g0 : v0.isSome = true := hd 0 (by decide); obtain ⟨u0, rfl⟩ := Option.isSome_iff_exists.1 g0; clear g0; obtain rfl := hX.kn 0 _ (by decide) rfl
          clear hl hd hC hq
          refine StepZ.go rfl ?_
          go_simp
          exact hX.known 1 (by decide)
        · intro V W hl hn hd hX hC; have hq : V.length = 20 := hl; obtain ⟨v0, v1, v2, v3, v4, v5, v6, v7, v8, v9, v10, v11, v12, v13, v14, v15, v16, v17, v18, v19, hV⟩ := qlen20 hq; subst hV; obtain rfl : v2 = none := hn
          clear hl hd hC hq
          refine StepZ.go rfl ?_
          go_simp
          exact hX.known 2 (by decide)
        · intro V W hl hn hd hX hC; have hq : V.length = 20 := hl; obtain ⟨v0, v1, v2, v3, v4, v5, v6, v7, v8, v9, v10, v11, v12, v13, v14, v15, v16, v17, v18, v19, hV⟩ := qlen20 hq; subst hV; obtain rfl : v3 = none := hn
          obtain ⟨z0, z1, z2, z3, zl⟩ := (HCB.out.ext hX.ext).c4
          have g2 : v2.isSome = true := hd 2 (by decide); obtain ⟨u2, rfl⟩ := Option.isSome_iff_exists.1 g2; clear g2; obtain rfl := hX.kn 2 _ (by decide) rfl
          clear hl hd hC hq
          refine StepZ.go rfl ?_
          go_simp
          exact hX.known 3 (by decide)
        · intro V W hl hn hd hX hC; have hq : V.length = 20 := hl; obtain ⟨v0, v1, v2, v3, v4, v5, v6, v7, v8, v9, v10, v11, v12, v13, v14, v15, v16, v17, v18, v19, hV⟩ := qlen20 hq; subst hV; obtain rfl : v4 = none := hn
          clear hl hd hC hq
          refine StepZ.go rfl ?_
          go_simp
          exact hX.known 4 (by decide)
        · intro V W hl hn hd hX hC; have hq : V.length = 20 := hl; obtain ⟨v0, v1, v2, v3, v4, v5, v6, v7, v8, v9, v10, v11, v12, v13, v14, v15, v16, v17, v18, v19, hV⟩ := qlen20 hq; subst hV; obtain rfl : v5 = none := hn
          obtain ⟨z0, z1, z2, z3, zl⟩ := (HLB.out.ext hX.ext).c4
          have g4 : v4.isSome = true := hd 4 (by decide); obtain ⟨u4, rfl⟩ := Option.isSome_iff_exists.1 g4; clear g4; obtain rfl := hX.kn 4 _ (by decide) rfl
          clear hl hd hC hq
          refine StepZ.go rfl ?_
          go_simp
          exact hX.known 5 (by decide)
        · intro V W hl hn hd hX hC; have hq : V.length = 20 := hl; obtain ⟨v0, v1, v2, v3, v4, v5, v6, v7, v8, v9, v10, v11, v12, v13, v14, v15, v16, v17, v18, v19, hV⟩ := qlen20 hq; subst hV; obtain rfl : v6 = none := hn
          have g3 : v3.isSome = true := hd 3 (by decide); obtain ⟨u3, rfl⟩ := Option.isSome_iff_exists.1 g3; clear g3; obtain rfl := hX.kn 3 _ (by decide) rfl
          have g5 : v5.isSome = true := hd 5 (by decide); obtain ⟨u5, rfl⟩ := Option.isSome_iff_exists.1 g5; clear g5; obtain rfl := hX.kn 5 _ (by decide) rfl
          clear hl hd hC hq
          refine StepZ.go rfl ?_
          go_simp
          exact hX.known 6 (by decide)
        · intro V W hl hn hd hX hC; have hq : V.length = 20 := hl; obtain ⟨v0, v1, v2, v3, v4, v5, v6, v7, v8, v9, v10, v11, v12, v13, v14, v15, v16, v17, v18, v19, hV⟩ := qlen20 hq; subst hV; obtain rfl : v7 = none := hn
          have g1 : v1.isSome = true := hd 1 (by decide); obtain ⟨u1, rfl⟩ := Option.isSome_iff_exists.1 g1; clear g1; obtain rfl := hX.kn 1 _ (by decide) rfl
          have g6 : v6.isSome = true := hd 6 (by decide); obtain ⟨u6, rfl⟩ := Option.isSome_iff_exists.1 g6; clear g6; obtain rfl := hX.kn 6 _ (by decide) rfl
          clear hl hd hC hq
          refine StepZ.go rfl ?_
          go_simp
          exact hX.known 7 (by decide)
        · intro V W hl hn hd hX hC; have hq : V.length = 20 := hl; obtain ⟨v0, v1, v2, v3, v4, v5, v6, v7, v8, v9, v10, v11, v12, v13, v14, v15, v16, v17, v18, v19, hV⟩ := qlen20 hq; subst hV; obtain rfl : v8 = none := hn
          clear hl hd hC hq
          refine StepZ.go rfl ?_
          go_simp
          exact hX.known 8 (by decide)
        · intro V W hl hn hd hX hC; have hq : V.length = 20 := hl; obtain ⟨v0, v1, v2, v3, v4, v5, v6, v7, v8, v9, v10, v11, v12, v13, v14, v15, v16, v17, v18, v19, hV⟩ := qlen20 hq; subst hV; obtain rfl : v9 = none := hn
          obtain ⟨z0, z1, z2, z3, zl⟩ := (HCB.out.ext hX.ext).c4
          have g8 : v8.isSome = true := hd 8 (by decide); obtain ⟨u8, rfl⟩ := Option.isSome_iff_exists.1 g8; clear g8; obtain rfl := hX.kn 8 _ (by decide) rfl
          clear hl hd hC hq
          refine StepZ.go rfl ?_
          go_simp
          exact hX.known 9 (by decide)
        · intro V W hl hn hd hX hC; have hq : V.length = 20 := hl; obtain ⟨v0, v1, v2, v3, v4, v5, v6, v7, v8, v9, v10, v11, v12, v13, v14, v15, v16, v17, v18, v19, hV⟩ := qlen20 hq; subst hV; obtain rfl : v10 = none := hn
          clear hl hd hC hq
          refine StepZ.go rfl ?_
          go_simp
          exact hX.known 10 (by decide)
        · intro V W hl hn hd hX hC; have hq : V.length = 20 := hl; obtain ⟨v0, v1, v2, v3, v4, v5, v6, v7, v8, v9, v10, v11, v12, v13, v14, v15, v16, v17, v18, v19, hV⟩ := qlen20 hq; subst hV; obtain rfl : v11 = none := hn
          obtain ⟨z0, z1, z2, z3, zl⟩ := (HCB.out.ext hX.ext).c4
          have g10 : v10.isSome = true := hd 10 (by decide); obtain ⟨u10, rfl⟩ := Option.isSome_iff_exists.1 g10; clear g10; obtain rfl := hX.kn 10 _ (by decide) rfl
          clear hl hd hC hq
          refine StepZ.go rfl ?_
          go_simp
          exact hX.known 11 (by decide)
        · intro V W hl hn hd hX hC; have hq : V.length = 20 := hl; obtain ⟨v0, v1, v2, v3, v4, v5, v6, v7, v8, v9, v10, v11, v12, v13, v14, v15, v16, v17, v18, v19, hV⟩ := qlen20 hq; subst hV; obtain rfl : v12 = none := hn
          clear hl hd hC hq
          refine StepZ.go rfl ?_
          go_simp
          exact hX.known 12 (by decide)
        · intro V W hl hn hd hX hC; have hq : V.length = 20 := hl; obtain ⟨v0, v1, v2, v3, v4, v5, v6, v7, v8, v9, v10, v11, v12, v13, v14, v15, v16, v17, v18, v19, hV⟩ := qlen20 hq; subst hV; obtain rfl : v13 = none := hn
          obtain ⟨z0, z1, z2, z3, zl⟩ := (HLB.out.ext hX.ext).c4
          have g12 : v12.isSome = true := hd 12 (by decide); obtain ⟨u12, rfl⟩ := Option.isSome_iff_exists.1 g12; clear g12; obtain rfl := hX.kn 12 _ (by decide) rfl
          clear hl hd hC hq
          refine StepZ.go rfl ?_
          go_simp
          exact hX.known 13 (by decide)
        · intro V W hl hn hd hX hC; have hq : V.length = 20 := hl; obtain ⟨v0, v1, v2, v3, v4, v5, v6, v7, v8, v9, v10, v11, v12, v13, v14, v15, v16, v17, v18, v19, hV⟩ := qlen20 hq; subst hV; obtain rfl : v14 = none := hn
          have g11 : v11.isSome = true := hd 11 (by decide); obtain ⟨u11, rfl⟩ := Option.isSome_iff_exists.1 g11; clear g11; obtain rfl := hX.kn 11 _ (by decide) rfl
          have g13 : v13.isSome = true := hd 13 (by decide); obtain ⟨u13, rfl⟩ := Option.isSome_iff_exists.1 g13; clear g13; obtain rfl := hX.kn 13 _ (by decide) rfl
          clear hl hd hC hq
          refine StepZ.go rfl ?_
          go_simp
          exact hX.known 14 (by decide)
        · intro V W hl hn hd hX hC; have hq : V.length = 20 := hl; obtain ⟨v0, v1, v2, v3, v4, v5, v6, v7, v8, v9, v10, v11, v12, v13, v14, v15, v16, v17, v18, v19, hV⟩ := qlen20 hq; subst hV; obtain rfl : v15 = none := hn
          have g9 : v9.isSome = true := hd 9 (by decide); obtain ⟨u9, rfl⟩ := Option.isSome_iff_exists.1 g9; clear g9; obtain rfl := hX.kn 9 _ (by decide) rfl
          have g14 : v14.isSome = true := hd 14 (by decide); obtain ⟨u14, rfl⟩ := Option.isSome_iff_exists.1 g14; clear g14; obtain rfl := hX.kn 14 _ (by decide) rfl
          clear hl hd hC hq
          refine StepZ.go rfl ?_
          go_simp
          exact hX.known 15 (by decide)
        · intro V W hl hn hd hX hC; have hq : V.length = 20 := hl; obtain ⟨v0, v1, v2, v3, v4, v5, v6, v7, v8, v9, v10, v11, v12, v13, v14, v15, v16, v17, v18, v19, hV⟩ := qlen20 hq; subst hV; obtain rfl : v16 = none := hn
          have h9 : v18 = none := none_of (fun e => hC 18 _ rfl e 16 (by decide)) rfl
          subst h9
          clear hl hd hC hq
          refine StepZ.go rfl ?_
          go_simp
          exact hX.alloc16 rfl rfl
        · intro V W hl hn hd hX hC; have hq : V.length = 20 := hl; obtain ⟨v0, v1, v2, v3, v4, v5, v6, v7, v8, v9, v10, v11, v12, v13, v14, v15, v16, v17, v18, v19, hV⟩ := qlen20 hq; subst hV; obtain rfl : v17 = none := hn
          have h9 : v19 = none := none_of (fun e => hC 19 _ rfl e 17 (by decide)) rfl
          subst h9
          clear hl hd hC hq
          refine StepZ.go rfl ?_
          go_simp
          exact hX.alloc17 rfl rfl
        · intro V W hl hn hd hX hC; have hq : V.length = 20 := hl; obtain ⟨v0, v1, v2, v3, v4, v5, v6, v7, v8, v9, v10, v11, v12, v13, v14, v15, v16, v17, v18, v19, hV⟩ := qlen20 hq; subst hV; obtain rfl : v18 = none := hn
          have g7 : v7.isSome = true := hd 7 (by decide); obtain ⟨u7, rfl⟩ := Option.isSome_iff_exists.1 g7; clear g7; obtain rfl := hX.kn 7 _ (by decide) rfl
          have g16 : v16.isSome = true := hd 16 (by decide)
          obtain ⟨u16, rfl⟩ := Option.isSome_iff_exists.1 g16
          obtain ⟨pp, rfl, hpz, hpb⟩ := hX.p16 _ rfl
          have hpb' : Blk W pp 47 #[.int .i64 0, .int .i64 0] := hpb
          obtain ⟨z0, z1, _, _, zl⟩ := hpb'.c2
          have F := hpb'.frozen
          have hst := hX.store18 pp rfl rfl
          clear hl hd hC hq hpb hpb'
          refine StepZ.go rfl ?_
          go_simp
          exact ⟨rfl, hst undef⟩
        · intro V W hl hn hd hX hC; have hq : V.length = 20 := hl; obtain ⟨v0, v1, v2, v3, v4, v5, v6, v7, v8, v9, v10, v11, v12, v13, v14, v15, v16, v17, v18, v19, hV⟩ := qlen20 hq; subst hV; obtain rfl : v19 = none := hn
          have g15 : v15.isSome = true := hd 15 (by decide); obtain ⟨u15, rfl⟩ := Option.isSome_iff_exists.1 g15; clear g15; obtain rfl := hX.kn 15 _ (by decide) rfl
          have g17 : v17.isSome = true := hd 17 (by decide)
          obtain ⟨u17, rfl⟩ := Option.isSome_iff_exists.1 g17
          obtain ⟨pp, rfl, hpz, hpb⟩ := hX.p17 _ rfl
          have hpb' : Blk W pp 47 #[.int .i64 0, .int .i64 0] := hpb
          obtain ⟨z0, z1, _, _, zl⟩ := hpb'.c2
          have F := hpb'.frozen
          have hst := hX.store19 pp rfl rfl
          clear hl hd hC hq hpb hpb'
          refine StepZ.go rfl ?_
          go_simp
          exact ⟨rfl, hst undef⟩
        · intro V W hl hV hX
          have hq : V.length = 20 := hl
          obtain ⟨v0, v1, v2, v3, v4, v5, v6, v7, v8, v9, v10, v11, v12, v13, v14, v15, v16, v17, v18, v19, hW⟩ := qlen20 hq
          subst hW
          have g16 : v16.isSome = true := hV 16 (by decide)
          have g17 : v17.isSome = true := hV 17 (by decide)
          have g18 : v18.isSome = true := hV 18 (by decide)
          have g19 : v19.isSome = true := hV 19 (by decide)
          obtain ⟨u16, rfl⟩ := Option.isSome_iff_exists.1 g16
          obtain ⟨u17, rfl⟩ := Option.isSome_iff_exists.1 g17
          obtain ⟨u18, rfl⟩ := Option.isSome_iff_exists.1 g18
          obtain ⟨u19, rfl⟩ := Option.isSome_iff_exists.1 g19
          obtain ⟨pa, rfl, hpz, hpa⟩ := hX.p16 _ rfl
          obtain ⟨pb, rfl, hqz, hpb⟩ := hX.p17 _ rfl
          have hne : pa ≠ pb := fun e => hX.ne _ _ rfl rfl (by rw [e])
          have HPA : Hid (Blk W pa 47 #[.int .i64 (2 * (i : Int) + 2), .int .i64 0]) := Lib.hid hpa
          have HPB : Hid (Blk W pb 47 #[.int .i64 (2 * (i : Int) + 1), .int .i64 0]) := Lib.hid hpb
          have HXW := Lib.hid (HXZ.out.trans hX.ext)
          have HXQ := Lib.hid hX.ext
          have hpal : wr.heap.size ≤ pa := Nat.le_trans HXZ.out.size hpz
          have hpbl : wr.heap.size ≤ pb := Nat.le_trans HXZ.out.size hqz
          clear hpz hqz
          clear hl hV hq g16 g17 g18 g19 hX HQ0 hpa hpb c0 c1 c2 c3 l0 l1 l2 l3 s0 s1 s2 sl hlw hcw
          simp only [putAll, known, List.map_cons, List.map_nil, Act.put, List.setIfInBounds_toArray, List.set_cons_zero, List.set_cons_succ, Option.getD_some]
          obtain ⟨a0, a1, _, _, al⟩ := HPA.out.c2
          obtain ⟨b0, b1, _, _, bl⟩ := HPB.out.c2
          have FA := HPA.out.frozen
          have FB := HPB.out.frozen
          have hxw := HXW.out
          have hwl : w0.heap.size ≤ W.heap.size := Nat.le_trans HSZ.out hxw.size
          have hi64 : i ≤ 32 := by omega
          obtain ⟨z0, z1, z2, z3, zl⟩ := (HLB.out.ext HXQ.out).c4
          go_upto_region 9 with fail
          have HX9 : Hid (Ext wr ((((W.setCell ⟨pa, 0, none⟩ (.int .i64 (2 * (i : Int) + 1))).setCell ⟨pa, 1, none⟩ (.int .i64 0)).setCell ⟨pb, 0, none⟩ (.int .i64 (2 * (i : Int) + 2))).setCell ⟨pb, 1, none⟩ (.int .i64 0))) := Lib.hid (by repeat (first | exact Ext.refl _ | assumption | refine Ext.alloc ?_ _ | refine Ext.drew ?_ | refine Ext.drewN ?_ _ | (refine Ext.setCell ?_ (by simp <;> omega) _) | refine Ext.trans ?_ (by assumption)))
          have HA9 : Hid (Blk ((((W.setCell ⟨pa, 0, none⟩ (.int .i64 (2 * (i : Int) + 1))).setCell ⟨pa, 1, none⟩ (.int .i64 0)).setCell ⟨pb, 0, none⟩ (.int .i64 (2 * (i : Int) + 2))).setCell ⟨pb, 1, none⟩ (.int .i64 0)) pa 47 #[.int .i64 (2 * (i : Int) + 1), .int .i64 0]) := Lib.hid (Blk.far (Blk.far ((HPA.out.set_ 0 _).set_ 1 _) (p := ⟨pb, 0, none⟩) hne _) (p := ⟨pb, 1, none⟩) hne _)
          have HB9 : Hid (Blk ((((W.setCell ⟨pa, 0, none⟩ (.int .i64 (2 * (i : Int) + 1))).setCell ⟨pa, 1, none⟩ (.int .i64 0)).setCell ⟨pb, 0, none⟩ (.int .i64 (2 * (i : Int) + 2))).setCell ⟨pb, 1, none⟩ (.int .i64 0)) pb 47 #[.int .i64 (2 * (i : Int) + 2), .int .i64 0]) := Lib.hid (((Blk.far (Blk.far HPB.out (p := ⟨pa, 0, none⟩) (fun e => hne e.symm) _) (p := ⟨pa, 1, none⟩) (fun e => hne e.symm) _).set_ 0 _).set_ 1 _)
          clear a0 a1 al b0 b1 bl FA FB z0 z1 z2 z3 zl hxw hwl
          generalize (((W.setCell ⟨pa, 0, none⟩ (.int .i64 (2 * (i : Int) + 1))).setCell ⟨pa, 1, none⟩ (.int .i64 0)).setCell ⟨pb, 0, none⟩ (.int .i64 (2 * (i : Int) + 2))).setCell ⟨pb, 1, none⟩ (.int .i64 0) = W9 at *
          obtain ⟨a0, a1, _, _, al⟩ := HA9.out.c2
          obtain ⟨b0, b1, _, _, bl⟩ := HB9.out.c2
          have hwl : w0.heap.size ≤ W9.heap.size := Nat.le_trans HSZ.out HX9.out.size
          go_wp2_with (first | (at_builtin; refine list_appendC pageElt rfl (.tmp 50) (.tmp 53) rfl w0.heap.size (i * 2) u5 (pgCells (i * 2)) (by go_simp) ((own_later HO.out HX9.out).alloc _) (some ⟨W9.heap.size, 0, none⟩) 2 2 [.int .i64 (2 * (i : Int) + 1), .int .i64 0, .int .i64 (2 * (i : Int) + 2), .int .i64 0] (by go_simp) (RC.blk (n := 2) (size := 2) (Blk.new _ _ _) rfl (by omega)) (fun y hy => by simp only [List.mem_cons, List.not_mem_nil, or_false] at hy; rcases hy with rfl | rfl | rfl | rfl <;> rfl) (by omega) (by simp; omega) ?_; intro v' w' ho hg; rw [← HPG.out] at ho; have HO2 := Lib.hid ho; have HX2 := Lib.hid (own_grown ((own_later HO.out HX9.out).alloc _) hg ((HX.out.trans HX9.out).alloc _) (Nat.le_refl _)); clear ho hg))
          go_roundw
          case rel => exact ⟨i + 1, by omega, by go_num, Lib.hid (by rw [Nat.add_mul]; exact HO2.out), HX2⟩
          case measure => simp [intOf]; omega
      ·
        simp only [cellOf] at c0 c1 c2 c3
        simp at c0 c1 c2 c3
        go_upto_region 6 with fail
        have HXZ0 : Hid (Ext wr ((wr.alloc (.cells #[.int .i64 xc, .int .i64 xr, .int .i64 1, .int .i64 1] 90)).alloc (.cells #[.int .i64 (2 * (i : Int) + 2), .int .i64 1, .int .i64 (2 * (i : Int) + 1), .int .i64 1] 80))) := Lib.hid (by repeat (first | exact Ext.refl _ | assumption | refine Ext.alloc ?_ _ | refine Ext.drew ?_ | refine Ext.drewN ?_ _ | (refine Ext.setCell ?_ (by simp <;> omega) _) | refine Ext.trans ?_ (by assumption)))
        have HLB0 := Lib.hid ((Blk.new wr 90 #[.int .i64 xc, .int .i64 xr, .int .i64 1, .int .i64 1]).alloc (.cells #[.int .i64 (2 * (i : Int) + 2), .int .i64 1, .int .i64 (2 * (i : Int) + 1), .int .i64 1] 80))
        have HCB0 := Lib.hid (Blk.new1 wr (.cells #[.int .i64 xc, .int .i64 xr, .int .i64 1, .int .i64 1] 90) 80 #[.int .i64 (2 * (i : Int) + 2), .int .i64 1, .int .i64 (2 * (i : Int) + 1), .int .i64 1])
        generalize ((wr.alloc (.cells #[.int .i64 xc, .int .i64 xr, .int .i64 1, .int .i64 1] 90)).alloc (.cells #[.int .i64 (2 * (i : Int) + 2), .int .i64 1, .int .i64 (2 * (i : Int) + 1), .int .i64 1] 80)) = wz at *
        have HXZ := HXZ0
        have HLB := HLB0
        have HCB := HCB0
        clear HXZ0 HLB0 HCB0
        obtain ⟨q8, hq8⟩ : ∃ q8, wr.heap.size + 1 = q8 := ⟨_, rfl⟩
        rw [hq8] at HCB ⊢
        clear hq8
        obtain ⟨q7, hq7⟩ : ∃ q7, wr.heap.size = q7 := ⟨_, rfl⟩
        rw [hq7] at HLB ⊢
        clear hq7
        have HQ0 : Hid (QP wz (2 * (i : Int) + 2) (2 * (i : Int) + 1) [.pointer (some ⟨q8, 0, none⟩), .int .i64 (2 * (i : Int) + 2), .pointer (some ⟨q8, 1, none⟩), .int .i64 1, .pointer (some ⟨q7, 3, none⟩), .int .i64 1, .int .i64 0, .agg #[.int .i64 (2 * (i : Int) + 2), .int .i64 0], .pointer (some ⟨q8, 2, none⟩), .int .i64 (2 * (i : Int) + 1), .pointer (some ⟨q8, 3, none⟩), .int .i64 1, .pointer (some ⟨q7, 3, none⟩), .int .i64 1, .int .i64 0, .agg #[.int .i64 (2 * (i : Int) + 1), .int .i64 0]] (List.replicate 20 none) wz.drew) := Lib.hid (QP.start ((Ext.refl wz).drew))
        refine wp_region_q (QP wz (2 * (i : Int) + 2) (2 * (i : Int) + 1) _) (by kernel_rfl) (by kernel_rfl) HQ0.out ⟨?_, ?_, ?_, ?_, ?_, ?_, ?_, ?_, ?_, ?_, ?_, ?_, ?_, ?_, ?_, ?_, ?_, ?_, ?_, ?_, trivial⟩ ?_
        · intro V W hl hn hd hX hC; have hq : V.length = 20 := hl; obtain ⟨v0, v1, v2, v3, v4, v5, v6, v7, v8, v9, v10, v11, v12, v13, v14, v15, v16, v17, v18, v19, hV⟩ := qlen20 hq; subst hV; obtain rfl : v0 = none := hn
          clear hl hd hC hq
          refine StepZ.go rfl ?_
          go_simp
          exact hX.known 0 (by decide)
        · intro V W hl hn hd hX hC; have hq : V.length = 20 := hl; obtain ⟨v0, v1, v2, v3, v4, v5, v6, v7, v8, v9, v10, v11, v12, v13, v14, v15, v16, v17, v18, v19, hV⟩ := qlen20 hq; subst hV; obtain rfl : v1 = none := hn
          obtain ⟨z0, z1, z2, z3, zl⟩ := (HCB.out.ext hX.ext).c4
          have g0 : v0.isSome = true := hd 0 (by decide); obtain ⟨u0, rfl⟩ := Option.isSome_iff_exists.1 g0; clear g0; obtain rfl := hX.kn 0 _ (by decide) rfl
          clear hl hd hC hq
          refine StepZ.go rfl ?_
          go_simp
          exact hX.known 1 (by decide)
        · intro V W hl hn hd hX hC; have hq : V.length = 20 := hl; obtain ⟨v0, v1, v2, v3, v4, v5, v6, v7, v8, v9, v10, v11, v12, v13, v14, v15, v16, v17, v18, v19, hV⟩ := qlen20 hq; subst hV; obtain rfl : v2 = none := hn
          clear hl hd hC hq
          refine StepZ.go rfl ?_
          go_simp
          exact hX.known 2 (by decide)
        · intro V W hl hn hd hX hC; have hq : V.length = 20 := hl; obtain ⟨v0, v1, v2, v3, v4, v5, v6, v7, v8, v9, v10, v11, v12, v13, v14, v15, v16, v17, v18, v19, hV⟩ := qlen20 hq; subst hV; obtain rfl : v3 = none := hn
          obtain ⟨z0, z1, z2, z3, zl⟩ := (HCB.out.ext hX.ext).c4
          have g2 : v2.isSome = true := hd 2 (by decide); obtain ⟨u2, rfl⟩ := Option.isSome_iff_exists.1 g2; clear g2; obtain rfl := hX.kn 2 _ (by decide) rfl
          clear hl hd hC hq
          refine StepZ.go rfl ?_
          go_simp
          exact hX.known 3 (by decide)
        · intro V W hl hn hd hX hC; have hq : V.length = 20 := hl; obtain ⟨v0, v1, v2, v3, v4, v5, v6, v7, v8, v9, v10, v11, v12, v13, v14, v15, v16, v17, v18, v19, hV⟩ := qlen20 hq; subst hV; obtain rfl : v4 = none := hn
          clear hl hd hC hq
          refine StepZ.go rfl ?_
          go_simp
          exact hX.known 4 (by decide)
        · intro V W hl hn hd hX hC; have hq : V.length = 20 := hl; obtain ⟨v0, v1, v2, v3, v4, v5, v6, v7, v8, v9, v10, v11, v12, v13, v14, v15, v16, v17, v18, v19, hV⟩ := qlen20 hq; subst hV; obtain rfl : v5 = none := hn
          obtain ⟨z0, z1, z2, z3, zl⟩ := (HLB.out.ext hX.ext).c4
          have g4 : v4.isSome = true := hd 4 (by decide); obtain ⟨u4, rfl⟩ := Option.isSome_iff_exists.1 g4; clear g4; obtain rfl := hX.kn 4 _ (by decide) rfl
          clear hl hd hC hq
          refine StepZ.go rfl ?_
          go_simp
          exact hX.known 5 (by decide)
        · intro V W hl hn hd hX hC; have hq : V.length = 20 := hl; obtain ⟨v0, v1, v2, v3, v4, v5, v6, v7, v8, v9, v10, v11, v12, v13, v14, v15, v16, v17, v18, v19, hV⟩ := qlen20 hq; subst hV; obtain rfl : v6 = none := hn
          have g3 : v3.isSome = true := hd 3 (by decide); obtain ⟨u3, rfl⟩ := Option.isSome_iff_exists.1 g3; clear g3; obtain rfl := hX.kn 3 _ (by decide) rfl
          have g5 : v5.isSome = true := hd 5 (by decide); obtain ⟨u5, rfl⟩ := Option.isSome_iff_exists.1 g5; clear g5; obtain rfl := hX.kn 5 _ (by decide) rfl
          clear hl hd hC hq
          refine StepZ.go rfl ?_
          go_simp
          exact hX.known 6 (by decide)
        · intro V W hl hn hd hX hC; have hq : V.length = 20 := hl; obtain ⟨v0, v1, v2, v3, v4, v5, v6, v7, v8, v9, v10, v11, v12, v13, v14, v15, v16, v17, v18, v19, hV⟩ := qlen20 hq; subst hV; obtain rfl : v7 = none := hn
          have g1 : v1.isSome = true := hd 1 (by decide); obtain ⟨u1, rfl⟩ := Option.isSome_iff_exists.1 g1; clear g1; obtain rfl := hX.kn 1 _ (by decide) rfl
          have g6 : v6.isSome = true := hd 6 (by decide); obtain ⟨u6, rfl⟩ := Option.isSome_iff_exists.1 g6; clear g6; obtain rfl := hX.kn 6 _ (by decide) rfl
          clear hl hd hC hq
          refine StepZ.go rfl ?_
          go_simp
          exact hX.known 7 (by decide)
        · intro V W hl hn hd hX hC; have hq : V.length = 20 := hl; obtain ⟨v0, v1, v2, v3, v4, v5, v6, v7, v8, v9, v10, v11, v12, v13, v14, v15, v16, v17, v18, v19, hV⟩ := qlen20 hq; subst hV; obtain rfl : v8 = none := hn
          clear hl hd hC hq
          refine StepZ.go rfl ?_
          go_simp
          exact hX.known 8 (by decide)
        · intro V W hl hn hd hX hC; have hq : V.length = 20 := hl; obtain ⟨v0, v1, v2, v3, v4, v5, v6, v7, v8, v9, v10, v11, v12, v13, v14, v15, v16, v17, v18, v19, hV⟩ := qlen20 hq; subst hV; obtain rfl : v9 = none := hn
          obtain ⟨z0, z1, z2, z3, zl⟩ := (HCB.out.ext hX.ext).c4
          have g8 : v8.isSome = true := hd 8 (by decide); obtain ⟨u8, rfl⟩ := Option.isSome_iff_exists.1 g8; clear g8; obtain rfl := hX.kn 8 _ (by decide) rfl
          clear hl hd hC hq
          refine StepZ.go rfl ?_
          go_simp
          exact hX.known 9 (by decide)
        · intro V W hl hn hd hX hC; have hq : V.length = 20 := hl; obtain ⟨v0, v1, v2, v3, v4, v5, v6, v7, v8, v9, v10, v11, v12, v13, v14, v15, v16, v17, v18, v19, hV⟩ := qlen20 hq; subst hV; obtain rfl : v10 = none := hn
          clear hl hd hC hq
          refine StepZ.go rfl ?_
          go_simp
          exact hX.known 10 (by decide)
        · intro V W hl hn hd hX hC; have hq : V.length = 20 := hl; obtain ⟨v0, v1, v2, v3, v4, v5, v6, v7, v8, v9, v10, v11, v12, v13, v14, v15, v16, v17, v18, v19, hV⟩ := qlen20 hq; subst hV; obtain rfl : v11 = none := hn
          obtain ⟨z0, z1, z2, z3, zl⟩ := (HCB.out.ext hX.ext).c4
          have g10 : v10.isSome = true := hd 10 (by decide); obtain ⟨u10, rfl⟩ := Option.isSome_iff_exists.1 g10; clear g10; obtain rfl := hX.kn 10 _ (by decide) rfl
          clear hl hd hC hq
          refine StepZ.go rfl ?_
          go_simp
          exact hX.known 11 (by decide)
        · intro V W hl hn hd hX hC; have hq : V.length = 20 := hl; obtain ⟨v0, v1, v2, v3, v4, v5, v6, v7, v8, v9, v10, v11, v12, v13, v14, v15, v16, v17, v18, v19, hV⟩ := qlen20 hq; subst hV; obtain rfl : v12 = none := hn
          clear hl hd hC hq
          refine StepZ.go rfl ?_
          go_simp
          exact hX.known 12 (by decide)
        · intro V W hl hn hd hX hC; have hq : V.length = 20 := hl; obtain ⟨v0, v1, v2, v3, v4, v5, v6, v7, v8, v9, v10, v11, v12, v13, v14, v15, v16, v17, v18, v19, hV⟩ := qlen20 hq; subst hV; obtain rfl : v13 = none := hn
          obtain ⟨z0, z1, z2, z3, zl⟩ := (HLB.out.ext hX.ext).c4
          have g12 : v12.isSome = true := hd 12 (by decide); obtain ⟨u12, rfl⟩ := Option.isSome_iff_exists.1 g12; clear g12; obtain rfl := hX.kn 12 _ (by decide) rfl
          clear hl hd hC hq
          refine StepZ.go rfl ?_
          go_simp
          exact hX.known 13 (by decide)
        · intro V W hl hn hd hX hC; have hq : V.length = 20 := hl; obtain ⟨v0, v1, v2, v3, v4, v5, v6, v7, v8, v9, v10, v11, v12, v13, v14, v15, v16, v17, v18, v19, hV⟩ := qlen20 hq; subst hV; obtain rfl : v14 = none := hn
          have g11 : v11.isSome = true := hd 11 (by decide); obtain ⟨u11, rfl⟩ := Option.isSome_iff_exists.1 g11; clear g11; obtain rfl := hX.kn 11 _ (by decide) rfl
          have g13 : v13.isSome = true := hd 13 (by decide); obtain ⟨u13, rfl⟩ := Option.isSome_iff_exists.1 g13; clear g13; obtain rfl := hX.kn 13 _ (by decide) rfl
          clear hl hd hC hq
          refine StepZ.go rfl ?_
          go_simp
          exact hX.known 14 (by decide)
        · intro V W hl hn hd hX hC; have hq : V.length = 20 := hl; obtain ⟨v0, v1, v2, v3, v4, v5, v6, v7, v8, v9, v10, v11, v12, v13, v14, v15, v16, v17, v18, v19, hV⟩ := qlen20 hq; subst hV; obtain rfl : v15 = none := hn
          have g9 : v9.isSome = true := hd 9 (by decide); obtain ⟨u9, rfl⟩ := Option.isSome_iff_exists.1 g9; clear g9; obtain rfl := hX.kn 9 _ (by decide) rfl
          have g14 : v14.isSome = true := hd 14 (by decide); obtain ⟨u14, rfl⟩ := Option.isSome_iff_exists.1 g14; clear g14; obtain rfl := hX.kn 14 _ (by decide) rfl
          clear hl hd hC hq
          refine StepZ.go rfl ?_
          go_simp
          exact hX.known 15 (by decide)
        · intro V W hl hn hd hX hC; have hq : V.length = 20 := hl; obtain ⟨v0, v1, v2, v3, v4, v5, v6, v7, v8, v9, v10, v11, v12, v13, v14, v15, v16, v17, v18, v19, hV⟩ := qlen20 hq; subst hV; obtain rfl : v16 = none := hn
          have h9 : v18 = none := none_of (fun e => hC 18 _ rfl e 16 (by decide)) rfl
          subst h9
          clear hl hd hC hq
          refine StepZ.go rfl ?_
          go_simp
          exact hX.alloc16 rfl rfl
        · intro V W hl hn hd hX hC; have hq : V.length = 20 := hl; obtain ⟨v0, v1, v2, v3, v4, v5, v6, v7, v8, v9, v10, v11, v12, v13, v14, v15, v16, v17, v18, v19, hV⟩ := qlen20 hq; subst hV; obtain rfl : v17 = none := hn
          have h9 : v19 = none := none_of (fun e => hC 19 _ rfl e 17 (by decide)) rfl
          subst h9
          clear hl hd hC hq
          refine StepZ.go rfl ?_
          go_simp
          exact hX.alloc17 rfl rfl
        · intro V W hl hn hd hX hC; have hq : V.length = 20 := hl; obtain ⟨v0, v1, v2, v3, v4, v5, v6, v7, v8, v9, v10, v11, v12, v13, v14, v15, v16, v17, v18, v19, hV⟩ := qlen20 hq; subst hV; obtain rfl : v18 = none := hn
          have g7 : v7.isSome = true := hd 7 (by decide); obtain ⟨u7, rfl⟩ := Option.isSome_iff_exists.1 g7; clear g7; obtain rfl := hX.kn 7 _ (by decide) rfl
          have g16 : v16.isSome = true := hd 16 (by decide)
          obtain ⟨u16, rfl⟩ := Option.isSome_iff_exists.1 g16
          obtain ⟨pp, rfl, hpz, hpb⟩ := hX.p16 _ rfl
          have hpb' : Blk W pp 47 #[.int .i64 0, .int .i64 0] := hpb
          obtain ⟨z0, z1, _, _, zl⟩ := hpb'.c2
          have F := hpb'.frozen
          have hst := hX.store18 pp rfl rfl
          clear hl hd hC hq hpb hpb'
          refine StepZ.go rfl ?_
          go_simp
          exact ⟨rfl, hst undef⟩
        · intro V W hl hn hd hX hC; have hq : V.length = 20 := hl; obtain ⟨v0, v1, v2, v3, v4, v5, v6, v7, v8, v9, v10, v11, v12, v13, v14, v15, v16, v17, v18, v19, hV⟩ := qlen20 hq; subst hV; obtain rfl : v19 = none := hn
          have g15 : v15.isSome = true := hd 15 (by decide); obtain ⟨u15, rfl⟩ := Option.isSome_iff_exists.1 g15; clear g15; obtain rfl := hX.kn 15 _ (by decide) rfl
          have g17 : v17.isSome = true := hd 17 (by decide)
          obtain ⟨u17, rfl⟩ := Option.isSome_iff_exists.1 g17
          obtain ⟨pp, rfl, hpz, hpb⟩ := hX.p17 _ rfl
          have hpb' : Blk W pp 47 #[.int .i64 0, .int .i64 0] := hpb
          obtain ⟨z0, z1, _, _, zl⟩ := hpb'.c2
          have F := hpb'.frozen
          have hst := hX.store19 pp rfl rfl
          clear hl hd hC hq hpb hpb'
          refine StepZ.go rfl ?_
          go_simp
          exact ⟨rfl, hst undef⟩
        · intro V W hl hV hX
          have hq : V.length = 20 := hl
          obtain ⟨v0, v1, v2, v3, v4, v5, v6, v7, v8, v9, v10, v11, v12, v13, v14, v15, v16, v17, v18, v19, hW⟩ := qlen20 hq
          subst hW
          have g16 : v16.isSome = true := hV 16 (by decide)
          have g17 : v17.isSome = true := hV 17 (by decide)
          have g18 : v18.isSome = true := hV 18 (by decide)
          have g19 : v19.isSome = true := hV 19 (by decide)
          obtain ⟨u16, rfl⟩ := Option.isSome_iff_exists.1 g16
          obtain ⟨u17, rfl⟩ := Option.isSome_iff_exists.1 g17
          obtain ⟨u18, rfl⟩ := Option.isSome_iff_exists.1 g18
          obtain ⟨u19, rfl⟩ := Option.isSome_iff_exists.1 g19
          obtain ⟨pa, rfl, hpz, hpa⟩ := hX.p16 _ rfl
          obtain ⟨pb, rfl, hqz, hpb⟩ := hX.p17 _ rfl
          have hne : pa ≠ pb := fun e => hX.ne _ _ rfl rfl (by rw [e])
          have HPA : Hid (Blk W pa 47 #[.int .i64 (2 * (i : Int) + 2), .int .i64 0]) := Lib.hid hpa
          have HPB : Hid (Blk W pb 47 #[.int .i64 (2 * (i : Int) + 1), .int .i64 0]) := Lib.hid hpb
          have HXW := Lib.hid (HXZ.out.trans hX.ext)
          have HXQ := Lib.hid hX.ext
          have hpal : wr.heap.size ≤ pa := Nat.le_trans HXZ.out.size hpz
          have hpbl : wr.heap.size ≤ pb := Nat.le_trans HXZ.out.size hqz
          clear hpz hqz
          clear hl hV hq g16 g17 g18 g19 hX HQ0 hpa hpb c0 c1 c2 c3 l0 l1 l2 l3 s0 s1 s2 sl hlw hcw
          simp only [putAll, known, List.map_cons, List.map_nil, Act.put, List.setIfInBounds_toArray, List.set_cons_zero, List.set_cons_succ, Option.getD_some]
          obtain ⟨a0, a1, _, _, al⟩ := HPA.out.c2
          obtain ⟨b0, b1, _, _, bl⟩ := HPB.out.c2
          have FA := HPA.out.frozen
          have FB := HPB.out.frozen
          have hxw := HXW.out
          have hwl : w0.heap.size ≤ W.heap.size := Nat.le_trans HSZ.out hxw.size
          have hi64 : i ≤ 32 := by omega
          obtain ⟨z0, z1, z2, z3, zl⟩ := (HLB.out.ext HXQ.out).c4
          go_upto_region 9 with fail
          have HX9 : Hid (Ext wr ((((W.setCell ⟨pa, 0, none⟩ (.int .i64 (2 * (i : Int) + 1))).setCell ⟨pa, 1, none⟩ (.int .i64 0)).setCell ⟨pb, 0, none⟩ (.int .i64 (2 * (i : Int) + 2))).setCell ⟨pb, 1, none⟩ (.int .i64 0))) := Lib.hid (by repeat (first | exact Ext.refl _ | assumption | refine Ext.alloc ?_ _ | refine Ext.drew ?_ | refine Ext.drewN ?_ _ | (refine Ext.setCell ?_ (by simp <;> omega) _) | refine Ext.trans ?_ (by assumption)))
          have HA9 : Hid (Blk ((((W.setCell ⟨pa, 0, none⟩ (.int .i64 (2 * (i : Int) + 1))).setCell ⟨pa, 1, none⟩ (.int .i64 0)).setCell ⟨pb, 0, none⟩ (.int .i64 (2 * (i : Int) + 2))).setCell ⟨pb, 1, none⟩ (.int .i64 0)) pa 47 #[.int .i64 (2 * (i : Int) + 1), .int .i64 0]) := Lib.hid (Blk.far (Blk.far ((HPA.out.set_ 0 _).set_ 1 _) (p := ⟨pb, 0, none⟩) hne _) (p := ⟨pb, 1, none⟩) hne _)
          have HB9 : Hid (Blk ((((W.setCell ⟨pa, 0, none⟩ (.int .i64 (2 * (i : Int) + 1))).setCell ⟨pa, 1, none⟩ (.int .i64 0)).setCell ⟨pb, 0, none⟩ (.int .i64 (2 * (i : Int) + 2))).setCell ⟨pb, 1, none⟩ (.int .i64 0)) pb 47 #[.int .i64 (2 * (i : Int) + 2), .int .i64 0]) := Lib.hid (((Blk.far (Blk.far HPB.out (p := ⟨pa, 0, none⟩) (fun e => hne e.symm) _) (p := ⟨pa, 1, none⟩) (fun e => hne e.symm) _).set_ 0 _).set_ 1 _)
          clear a0 a1 al b0 b1 bl FA FB z0 z1 z2 z3 zl hxw hwl
          generalize (((W.setCell ⟨pa, 0, none⟩ (.int .i64 (2 * (i : Int) + 1))).setCell ⟨pa, 1, none⟩ (.int .i64 0)).setCell ⟨pb, 0, none⟩ (.int .i64 (2 * (i : Int) + 2))).setCell ⟨pb, 1, none⟩ (.int .i64 0) = W9 at *
          obtain ⟨a0, a1, _, _, al⟩ := HA9.out.c2
          obtain ⟨b0, b1, _, _, bl⟩ := HB9.out.c2
          have hwl : w0.heap.size ≤ W9.heap.size := Nat.le_trans HSZ.out HX9.out.size
          go_wp2_with (first | (at_builtin; refine list_appendC pageElt rfl (.tmp 50) (.tmp 53) rfl w0.heap.size (i * 2) u5 (pgCells (i * 2)) (by go_simp) ((own_later HO.out HX9.out).alloc _) (some ⟨W9.heap.size, 0, none⟩) 2 2 [.int .i64 (2 * (i : Int) + 1), .int .i64 0, .int .i64 (2 * (i : Int) + 2), .int .i64 0] (by go_simp) (RC.blk (n := 2) (size := 2) (Blk.new _ _ _) rfl (by omega)) (fun y hy => by simp only [List.mem_cons, List.not_mem_nil, or_false] at hy; rcases hy with rfl | rfl | rfl | rfl <;> rfl) (by omega) (by simp; omega) ?_; intro v' w' ho hg; rw [← HPG.out] at ho; have HO2 := Lib.hid ho; have HX2 := Lib.hid (own_grown ((own_later HO.out HX9.out).alloc _) hg ((HX.out.trans HX9.out).alloc _) (Nat.le_refl _)); clear ho hg))
          go_roundw
          case rel => exact ⟨i + 1, by omega, by go_num, Lib.hid (by rw [Nat.add_mul]; exact HO2.out), HX2⟩
          case measure => simp [intOf]; omega
    case neg =>
      obtain rfl : i = l.length := by omega
      have iN : ¬ (l.length : Int) < (l.length : Int) := by omega
      clear hlt hi
      obtain ⟨A9, c9, rfl, hrc⟩ := own_form HO.out (by omega)
      have HRC := Lib.hid hrc
      clear hrc
      go_wp2
      go_ret
      exact ⟨A9, c9, rfl, HRC.out, HX0.out.trans HX.out⟩
end Go.Proofs.Ytniiahddpdiocaa
