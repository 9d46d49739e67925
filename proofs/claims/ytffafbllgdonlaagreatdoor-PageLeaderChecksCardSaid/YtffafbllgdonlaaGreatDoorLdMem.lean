/-
  Leaders and a line in memory; what is specified of a line with leaders.
-/
import Derived.Test.YtffafbllgdonlaaGreatDoorGE
import Derived.Test.YtffafbllgdonlaaGreatDoorGJ
import Derived.Test.YtffafbllgdonlaaGreatDoorLeadLaw
namespace Go.Proofs.YtffafbllgdonlaaGreatDoor
open Go.ChangeShapes Go.WideShapes Go.ChangeAt Go.RowKit Go.Joins Go.Deep

theorem zx0 (w : World) : Ext w w := Ext.refl w
theorem zxa {a b : World} (h : Ext a b) (o : Obj) : Ext a (b.alloc o) := h.alloc o
theorem zxd {a b : World} (h : Ext a b) : Ext a b.drew := h.drew
theorem zxn {a b : World} (h : Ext a b) (n : Nat) : Ext a (b.drewN n) := h.drewN n
theorem zxs {a b : World} (h : Ext a b) {p : Addr} (hp : a.heap.size ≤ p.block) (v : Value) : Ext a (b.setCell p v) := h.setCell hp v
theorem zxt {a b c : World} (h : Ext a b) (k : Ext b c) : Ext a c := h.trans k
theorem zxx {w a b c : World} (_ : Ext w a) (h : Ext a b) (k : Ext b c) : Ext a c := h.trans k
structure LD where
  A : Option Addr
  c : Nat
  xs : List Int
  B : Option Addr
  d : Nat
  ys : List Int
  D : Option Addr
  e : Nat
  ds : List Int
  m : Int
def LD.val (x : LD) : Value := .agg #[.slice x.A x.xs.length x.c, .slice x.B x.ys.length x.d, .slice x.D x.ds.length x.e, .int .i64 x.m]
structure LDR (w : World) (x : LD) : Prop where
  rx : RI w x.A x.xs.length x.xs
  ry : RI w x.B x.ys.length x.ys
  rd : RI w x.D x.ds.length x.ds
theorem LDR.ext {w w' : World} {x : LD} (h : LDR w x) (hx : Ext w w') : LDR w' x := ⟨h.rx.ext hx, h.ry.ext hx, h.rd.ext hx⟩
/-- The error of a leader of a fount of n sorts. -/
def ldErr (n : Nat) (xs ys ds : List Int) (m : Int) : Int :=
  if listErr n xs ≠ 0 then listErr n xs else if listErr n ys ≠ 0 then listErr n ys else if listErr n ds ≠ 0 then listErr n ds else
  if ¬ (1 ≤ ds.length ∧ ds.length ≤ 6) then 10 else if ¬ (1 ≤ m ∧ m ≤ 1000000) then 2 else 0
theorem ldErr_zero {n : Nat} {xs ys ds : List Int} {m : Int} (h : ldErr n xs ys ds m = 0) :
    listErr n xs = 0 ∧ listErr n ys = 0 ∧ listErr n ds = 0 ∧ (1 ≤ ds.length ∧ ds.length ≤ 6) ∧ 1 ≤ m ∧ m ≤ 1000000 := by
  unfold ldErr at h
  by_cases h1 : listErr n xs = 0
  · by_cases h2 : listErr n ys = 0
    · by_cases h3 : listErr n ds = 0
      · rw [if_neg (by simpa using h1), if_neg (by simpa using h2), if_neg (by simpa using h3)] at h
        split at h
        · cases h
        · rename_i h4
          split at h
          · cases h
          · rename_i h5
            exact ⟨h1, h2, h3, Decidable.not_not.1 h4, (Decidable.not_not.1 h5).1, (Decidable.not_not.1 h5).2⟩
      · rw [if_neg (by simpa using h1), if_neg (by simpa using h2), if_pos h3] at h; exact absurd h h3
    · rw [if_neg (by simpa using h1), if_pos h2] at h; exact absurd h h2
  · rw [if_pos h1] at h; exact absurd h h1
def spB (ss : List TS) (z : Int) : Bool := decide ((ss.getD z.toNat TS.zero).kind = 3)
/-- The greatest number below K that a test takes. -/
def dnT (P : Nat → Bool) : Nat → Option Nat
  | 0 => none
  | K + 1 => if P K then some K else dnT P K
theorem dnT_eq (P : Nat → Bool) : ∀ k, dnT P (k + 1) = downTo P k
  | 0 => rfl
  | k + 1 => by rw [dnT, downTo, dnT_eq P k]
theorem dnT_congr {P Q : Nat → Bool} {K : Nat} (h : ∀ j, j < K → P j = Q j) : dnT P K = dnT Q K := by
  induction K with
  | zero => rfl
  | succ K ih => rw [dnT, dnT, h K (by omega), ih fun j hj => h j (by omega)]
def midL (xs ys zs : List Int) : List Int := (zs.take (zs.length - ys.length)).drop xs.length
/-- The number of leaders of a line of a right fount and a right leader, and the error. -/
def lcR (ss : List TS) (xs ys ds : List Int) (m lm : Int) (zs : List Int) : Int × Int :=
  if lm ≠ m ∨ widthTo ss zs zs.length ≠ m then (0, 23) else
  if zs.length < xs.length + ys.length ∨ zs.take xs.length ≠ xs ∨ zs.drop (zs.length - ys.length) ≠ ys then (0, 3) else
  match dnT (midB (spB ss) ds (midL xs ys zs)) ((midL xs ys zs).length / ds.length + 1) with
  | some k => ((k : Int), 0)
  | none => (0, 3)
def lcE (ss : List TS) (xs ys ds : List Int) (m lm : Int) (zs : List Int) : Int × Int :=
  if ldErr ss.length xs ys ds m ≠ 0 then (0, ldErr ss.length xs ys ds m) else if listErr ss.length zs ≠ 0 then (0, listErr ss.length zs) else lcR ss xs ys ds m lm zs
section
variable {H : Type} {enc : TypeId × Value → H} {w : World} {held : Bool} {b0 : Nat} {d : DataW H} {p : List MemPlace} {v : Value} {r : Reach}
set_option maxRecDepth 100000 in
/-- A leader that came in. -/
theorem open_LD (hv : Value.okWide Tryz.prog w r b0 27 v) (h : DataW.Trod enc Tryz.prog w 0 (fun _ => true) held 27 v d p) :
    ∃ x : LD, v = x.val ∧ LDR w x := by
  obtain ⟨v0, v1, v2, v3, y0, y1, y2, y3, n, rfl, _, _, t0, t1, t2, t3⟩ := open_agg4 Tryz.underlying27 (by kernel_rfl) (by kernel_rfl) hv h
  obtain ⟨A, c, zs, e0, hr0, _⟩ := open_RI_cells t0
  obtain ⟨B, d, ys, e1, hr1, _⟩ := open_RI_cells t1
  obtain ⟨D, e, ds, e2, hr2, _⟩ := open_RI_cells t2
  obtain ⟨m, e3, _, _⟩ := DataW.trod_int Tryz.underlying3 (show DataW.trod enc Tryz.prog w 0 (fun _ => true) held n 3 [v3] = some y3 from t3)
  simp only [List.cons.injEq, and_true] at e0 e1 e2 e3
  subst e0 e1 e2 e3
  exact ⟨⟨A, c, zs, B, d, ys, D, e, ds, m⟩, rfl, ⟨hr0, hr1, hr2⟩⟩
set_option maxRecDepth 100000 in
/-- A line that came in. -/
theorem open_LE (hv : Value.okWide Tryz.prog w r b0 29 v) (h : DataW.Trod enc Tryz.prog w 0 (fun _ => true) held 29 v d p) :
    ∃ (m : Int) (A : Option Addr) (c : Nat) (zs : List Int), v = .agg #[.int .i64 m, .slice A zs.length c] ∧ RI w A zs.length zs ∧ zs.length ≤ c := by
  obtain ⟨v0, v1, y0, y1, n, rfl, _, _, t0, t1⟩ := open_agg2 Tryz.underlying29 (by kernel_rfl) (by kernel_rfl) hv h
  obtain ⟨m, e0, _, _⟩ := DataW.trod_int Tryz.underlying3 (show DataW.trod enc Tryz.prog w 0 (fun _ => true) held n 3 [v0] = some y0 from t0)
  obtain ⟨A, c, zs, e1, hr1, hc, _⟩ := open_RI_cells t1
  simp only [List.cons.injEq, and_true] at e0 e1
  subst e0 e1
  exact ⟨m, A, c, zs, rfl, hr1, hc⟩
end
end Go.Proofs.YtffafbllgdonlaaGreatDoor
