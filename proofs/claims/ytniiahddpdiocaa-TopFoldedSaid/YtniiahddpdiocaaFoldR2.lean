/-
  Walks of the reference: mirrored.
-/
import Derived.Test.YtniiahddpdiocaaFoldR1
import Derived.Deep.RegionHeld3
namespace Go.Proofs.Ytniiahddpdiocaa
open Go.RowKit
attribute [local go_sem ↓] Go.wp_at_zero Go.wp_at_succ
attribute [local go_sem] stateAt vu known List.map_cons List.map_nil Option.getD_some

theorem step_appendC {sl el : TypeId} {size bytes : Nat} {z : Value} (Kt : Elt sl el size bytes z) {w : World} {ops : Array Oper} {o : Oper} {a : Act} {K : Act → World → Prop} {Q : Exit → Act → World → Prop} {E : Prop} (hgd : o.guard = none) (s x : Operand) (ho : o.op = .call { callee := .builtin .append, args := #[s, x], argTypes := #[sl, sl] })
    (base n : Nat) (v : Value) (xs : List Value) (hs : a.eval s = v) (hown : w.ownsRow base el size v n xs) (A : Option Addr) (m c : Nat) (news : List Value) (hx : a.eval x = .slice A m c) (hr : RC w A m size news) (h1 : ∀ u ∈ news, u.oneCell' = true) (hlen : n + m ≤ 1000000) (hbase : base ≤ w.heap.size)
    (h : ∀ v' w', w'.ownsRow base el size v' (n + m) (xs ++ news) → w.grownBy w' v.ownBlock → K (a.put o.dst v') w') : if Region.wanted o (yielded ops a.tmps) = true then Oper.wp Try.prog o a w K Q else E := by
  rw [if_pos (by simp [Region.wanted, hgd])]
  obtain ⟨v', w', hr', h2, h3⟩ := run_appendC Kt (c := c) hown hr h1 hlen hbase o.type
  unfold Oper.wp execOp
  simp only [ho, resolve, invoke, builtin, Sem.run_bind, Sem.run_pure, Result.andThen_ok, List.map_toArray, List.map_cons, List.map_nil, hs, hx, hr']
  exact h v' w' h2 h3
theorem qlen16 {α : Type} {V : List α} (h : V.length = 16) : ∃ a0 a1 a2 a3 a4 a5 a6 a7 a8 a9 a10 a11 a12 a13 a14 a15, V = [a0, a1, a2, a3, a4, a5, a6, a7, a8, a9, a10, a11, a12, a13, a14, a15] := by
  match V, h with
  | [a0, a1, a2, a3, a4, a5, a6, a7, a8, a9, a10, a11, a12, a13, a14, a15], _ => exact ⟨a0, a1, a2, a3, a4, a5, a6, a7, a8, a9, a10, a11, a12, a13, a14, a15, rfl⟩
theorem getD_set_ne {V : Vs} {i j : Nat} {x : Option Value} (h : j ≠ i) : (V.set i x).getD j none = V.getD j none := by
  rw [List.getD_eq_getElem?_getD, List.getElem?_set_ne (fun e => h e.symm), ← List.getD_eq_getElem?_getD]
theorem getD_set_eq {V : Vs} {i : Nat} {x : Option Value} (h : i < V.length) : (V.set i x).getD i none = x := by
  rw [List.getD_eq_getElem?_getD, List.getElem?_set_self h]; rfl
/-- What is known in the region that appends an old place. -/
structure QR (w0 : World) (pb C R B : Nat) (vv : Value) (rows : List SLf) (s : SLf) (kv : List Value) (V : Vs) (W : World) : Prop where
  len : V.length = 16
  ext : Ext w0 W
  kn : ∀ i x, (i < 12 ∨ i = 14) → V.getD i none = some x → x = kv.getD i undef
  k13 : (V.getD 13 none).isSome = true → (V.getD 12 none).isSome = true ∧ (V.getD 1 none).isSome = true
  k15 : (V.getD 15 none).isSome = true → (V.getD 13 none).isSome = true
  a : V.getD 13 none = none → Hw w0 W pb C R B vv vv rows
  p12 : ∀ x, V.getD 12 none = some x → V.getD 13 none = none → ∃ g0, x = .slice (some ⟨g0, 0, none⟩) 1 1 ∧ Blk W g0 138 #[s.val]
  b : ∀ x, V.getD 13 none = some x → V.getD 15 none = none → Hw w0 W pb C R B vv x (rows ++ [s])
  d : ∀ y, V.getD 15 none = some y → ∃ x, Hw w0 W pb C R B x x (rows ++ [s])
section
variable {w0 W W' : World} {pb C R B : Nat} {vv : Value} {rows : List SLf} {s : SLf} {kv : List Value} {V : Vs}
theorem rep_none {i n : Nat} : (List.replicate n (none : Option Value)).getD i none = none := by
  rw [List.getD_eq_getElem?_getD, List.getElem?_replicate]
  split <;> rfl
theorem QR.start (h : Hw w0 W pb C R B vv vv rows) : QR w0 pb C R B vv rows s kv (List.replicate 16 none) W :=
  ⟨by simp, h.ext, fun i x _ e => (by rw [rep_none] at e; cases e), fun e => (by rw [rep_none] at e; cases e), fun e => (by rw [rep_none] at e; cases e), fun _ => h, fun x e => (by rw [rep_none] at e; cases e), fun x e => (by rw [rep_none] at e; cases e), fun y e => (by rw [rep_none] at e; cases e)⟩
theorem QR.known (h : QR w0 pb C R B vv rows s kv V W) (i : Nat) (hi : i < 12 ∨ i = 14) (hi2 : i < 16) (_hn : V.getD i none = none) : QR w0 pb C R B vv rows s kv (V.set i (some (kv.getD i undef))) W := by
  have h13 : (13 : Nat) ≠ i := by omega
  have h12 : (12 : Nat) ≠ i := by omega
  have h15 : (15 : Nat) ≠ i := by omega
  refine ⟨by rw [List.length_set]; exact h.len, h.ext, fun j x hj e => ?_, fun e => ?_, fun e => ?_, fun e => ?_, fun x e e2 => ?_, fun x e e2 => ?_, fun y e => ?_⟩
  · by_cases hji : j = i
    · subst hji
      rw [getD_set_eq (by rw [h.len]; exact hi2)] at e
      cases e; rfl
    · rw [getD_set_ne hji] at e; exact h.kn j x hj e
  · rw [getD_set_ne h13] at e
    have := h.k13 e
    refine ⟨by rw [getD_set_ne h12]; exact this.1, ?_⟩
    by_cases h1 : 1 = i
    · subst h1; rw [getD_set_eq (by rw [h.len]; exact hi2)]; rfl
    · rw [getD_set_ne h1]; exact this.2
  · rw [getD_set_ne h15] at e; rw [getD_set_ne h13]; exact h.k15 e
  · rw [getD_set_ne h13] at e; exact h.a e
  · rw [getD_set_ne h12] at e; rw [getD_set_ne h13] at e2; exact h.p12 x e e2
  · rw [getD_set_ne h13] at e; rw [getD_set_ne h15] at e2; exact h.b x e e2
  · rw [getD_set_ne h15] at e; exact h.d y e
theorem QR.n13 (h : QR w0 pb C R B vv rows s kv V W) (h1 : V.getD 1 none = none) : V.getD 13 none = none := none_of (fun e => (h.k13 e).2) h1
theorem QR.n13' (h : QR w0 pb C R B vv rows s kv V W) (h1 : V.getD 12 none = none) : V.getD 13 none = none := none_of (fun e => (h.k13 e).1) h1
theorem QR.n15 (h : QR w0 pb C R B vv rows s kv V W) (h1 : V.getD 13 none = none) : V.getD 15 none = none := none_of h.k15 h1
theorem QR.e12 (h : QR w0 pb C R B vv rows s kv V W) (h13 : V.getD 13 none = none) (h15 : V.getD 15 none = none) : QR w0 pb C R B vv rows s kv (V.set 12 (some (.slice (some ⟨W.heap.size, 0, none⟩) 1 1))) (W.alloc (.cells #[s.val] 138)) := by
  refine ⟨by rw [List.length_set]; exact h.len, h.ext.alloc _, fun j x hj e => ?_, fun e => ?_, fun e => ?_, fun e => ?_, fun x e e2 => ?_, fun x e e2 => ?_, fun y e => ?_⟩
  · rw [getD_set_ne (by omega)] at e; exact h.kn j x hj e
  · rw [getD_set_ne (by omega), h13] at e; cases e
  · rw [getD_set_ne (by omega), h15] at e; cases e
  · exact (h.a h13).next ((Ext.refl W).alloc _)
  · rw [getD_set_eq (by rw [h.len]; omega)] at e
    cases e
    exact ⟨_, rfl, Blk.new _ _ _⟩
  · rw [getD_set_ne (by omega), h13] at e; cases e
  · rw [getD_set_ne (by omega), h15] at e; cases e
theorem QR.e13 (h : QR w0 pb C R B vv rows s kv V W) (h15 : V.getD 15 none = none) (hs : OLf W 0 s.val s.l) (hl : s.l.length ≤ B) {v' : Value} (hg : W.grownBy W' vv.ownBlock)
    (ho : W'.ownsRow (pb + 1) 138 1 v' (rows.length + 1) (rows.map SLf.val ++ [s.val])) (hn : V.getD 13 none = none := by rfl) (h12 : (V.getD 12 none).isSome = true := by rfl) (h1 : (V.getD 1 none).isSome = true := by rfl) : QR w0 pb C R B vv rows s kv (V.set 13 (some v')) W' := by
  have hp := (h.a hn).push hs hl hg ho
  refine ⟨by rw [List.length_set]; exact h.len, hp.ext, fun j x hj e => ?_, fun e => ?_, fun e => ?_, fun e => ?_, fun x e e2 => ?_, fun x e e2 => ?_, fun y e => ?_⟩
  · rw [getD_set_ne (by omega)] at e; exact h.kn j x hj e
  · rw [getD_set_ne (by omega), getD_set_ne (by omega)]; exact ⟨h12, h1⟩
  · rw [getD_set_ne (by omega), h15] at e; cases e
  · rw [getD_set_eq (by rw [h.len]; omega)] at e; cases e
  · rw [getD_set_eq (by rw [h.len]; omega)] at e2; cases e2
  · rw [getD_set_eq (by rw [h.len]; omega)] at e; cases e; exact hp
  · rw [getD_set_ne (by omega), h15] at e; cases e
theorem QR.e15 {u : Value} (h : QR w0 pb C R B vv rows s kv V W) (y : Value) (h13 : V.getD 13 none = some u := by rfl) (hn : V.getD 15 none = none := by rfl) : QR w0 pb C R B vv rows s kv (V.set 15 (some y)) (W.setCell ⟨pb, 2, none⟩ u) := by
  have hp := (h.b u h13 hn).store
  refine ⟨by rw [List.length_set]; exact h.len, hp.ext, fun j x hj e => ?_, fun e => ?_, fun e => ?_, fun e => ?_, fun x e e2 => ?_, fun x e e2 => ?_, fun y e => ?_⟩
  · rw [getD_set_ne (by omega)] at e; exact h.kn j x hj e
  · rw [getD_set_ne (by omega), getD_set_ne (by omega)]; exact h.k13 (by rw [h13]; rfl)
  · rw [getD_set_ne (by omega), h13]; rfl
  · rw [getD_set_ne (by omega), h13] at e; cases e
  · rw [getD_set_ne (by omega), h13] at e2; cases e2
  · rw [getD_set_eq (by rw [h.len]; omega)] at e2; cases e2
  · exact ⟨u, hp⟩
end
abbrev HV (C R : Nat) (A : Option Addr) (n d : Nat) : Value := .agg #[.int .i64 (C : Int), .int .i64 (R : Int), .slice A n d]
set_option maxRecDepth 100000 in
set_option maxHeartbeats 8000000 in
theorem mirrored_any (C R B : Nat) (A : Option Addr) (hd : Nat) (rs : List SLf) (b1 b2 : Bool) (w : World) (hC : C ≤ 8) (hR : R ≤ 8) (hB : B ≤ 50000) (h : HO w 0 B (.slice A rs.length hd) rs) (hl : rs.length = R * C) :
    Calls Try.prog 76 #[HV C R A rs.length hd, .bool b1, .bool b2] w (RetH C R B w) := by
  have hRC : R * C ≤ 64 := Nat.mul_le_mul hR hC
  have HH := Lib.hid h
  clear h
  have HL := Lib.hid hl
  have hrn : rs.length ≤ 1000 := by omega
  clear hl
  have HB1 := Lib.hid ((Blk.new w 94 #[.int .i64 (C : Int), .int .i64 (R : Int), .slice A rs.length hd]).alloc (.cells #[.int .i64 0, .int .i64 0, .slice none 0 0] 94))
  have HB0 := Lib.hid (Blk.new1 w (.cells #[.int .i64 (C : Int), .int .i64 (R : Int), .slice A rs.length hd] 94) 94 #[.int .i64 0, .int .i64 0, .slice none 0 0])
  have HX0 : Hid (Ext w ((w.alloc (.cells #[.int .i64 (C : Int), .int .i64 (R : Int), .slice A rs.length hd] 94)).alloc (.cells #[.int .i64 0, .int .i64 0, .slice none 0 0] 94))) := Lib.hid (by repeat (first | exact Ext.refl _ | assumption | refine Ext.alloc ?_ _ | refine Ext.drew ?_ | refine Ext.drewN ?_ _ | (refine Ext.setCell ?_ (by simp <;> omega) _) | refine Ext.trans ?_ (by assumption)))
  have HG0 : Hid (Hw ((w.alloc (.cells #[.int .i64 (C : Int), .int .i64 (R : Int), .slice A rs.length hd] 94)).alloc (.cells #[.int .i64 0, .int .i64 0, .slice none 0 0] 94)) (((w.alloc (.cells #[.int .i64 (C : Int), .int .i64 (R : Int), .slice A rs.length hd] 94)).alloc (.cells #[.int .i64 0, .int .i64 0, .slice none 0 0] 94)).alloc (.cells #[.int .i64 (C : Int), .int .i64 (R : Int), .slice none 0 0] 94)) (w.heap.size + 1 + 1) C R B (.slice none 0 0) (.slice none 0 0) []) := Lib.hid
    ⟨(by repeat (first | exact Ext.refl _ | assumption | refine Ext.alloc ?_ _ | refine Ext.drew ?_ | refine Ext.drewN ?_ _ | (refine Ext.setCell ?_ (by simp <;> omega) _) | refine Ext.trans ?_ (by assumption))), by simp, Blk.new2 _ _ _ _ _, World.ownsRow_nil _ _ _ _, fun s hs => by cases hs⟩
  unfold HV
  go_enter Try.func76, Try.ntmps76
  go_wp2
  generalize ((w.alloc (.cells #[.int .i64 (C : Int), .int .i64 (R : Int), .slice A rs.length hd] 94)).alloc (.cells #[.int .i64 0, .int .i64 0, .slice none 0 0] 94)) = w0 at *
  generalize (w0.alloc (.cells #[.int .i64 (C : Int), .int .i64 (R : Int), .slice none 0 0] 94)) = w1 at *
  have HPB : Hid (w.heap.size + 1 < w.heap.size + 1 + 1) := Lib.hid (Nat.lt_succ_self _)
  have HQB : Hid (w.heap.size ≤ w.heap.size + 1) := Lib.hid (Nat.le_succ _)
  have HHB : Hid (w.heap.size < w.heap.size + 1) := Lib.hid (Nat.lt_succ_self _)
  generalize w.heap.size + 1 + 1 = pb at *
  generalize w.heap.size + 1 = qb at *
  obtain ⟨hb, hhb⟩ : ∃ hb, w.heap.size = hb := ⟨_, rfl⟩
  have HHE := Lib.hid hhb
  rw [hhb] at HB1 HHB ⊢
  clear hhb
  go_loopw [8, 9, 10, 11] (fun v8 _ _ _ wr => ∃ (r : Nat) (v : Value) (rows : List SLf), r ≤ R ∧ v8 = .int .i64 (r : Int) ∧ Hid (Hw w0 wr pb C R B v v rows) ∧ Hid (rows.length = r * C)) (fun v8 _ _ _ _ => R - (intOf v8).toNat)
  case atStart => exact ⟨0, _, _, Nat.zero_le _, rfl, HG0, Lib.hid (by simp)⟩
  case round =>
    obtain ⟨r, v, rows, hr, rfl, HG, HN⟩ := hrel
    clear HG0
    obtain ⟨m0, m1, m2, ml⟩ := (HB1.out.ext HG.out.ext).c3
    by_cases hlt : r < R
    case pos =>
      have ir : (r : Int) < (R : Int) := by omega
      go_wp2
      go_loopw [9, 10, 11] (fun v9 _ _ wr => ∃ (c : Nat) (v : Value) (rows : List SLf), c ≤ C ∧ v9 = .int .i64 (c : Int) ∧ Hid (Hw w0 wr pb C R B v v rows) ∧ Hid (rows.length = r * C + c)) (fun v9 _ _ _ => C - (intOf v9).toNat)
      case atStart => exact ⟨0, _, _, Nat.zero_le _, rfl, HG, HN⟩
      case round =>
        clear HG HN m0 m1 m2 ml
        obtain ⟨c, v, rows, hc, rfl, HG, HN⟩ := hrel
        obtain ⟨m0, m1, m2, ml⟩ := (HB1.out.ext HG.out.ext).c3
        by_cases hlc : c < C
        case pos =>
          have ic : (c : Int) < (C : Int) := by omega
          have hgl := grid_lt (C := C) (R := R) hlc hlt
          have hrn2 : rows.length ≤ 1000 := by have := HN.out; omega
          obtain ⟨A0, d0, rfl, _⟩ := own_form HG.out.ho.own (by omega)
          obtain ⟨k0, k1, k2, kl⟩ := HG.out.blk.c3
          have HKL : Hid (pb + 1 ≤ wr.heap.size) := Lib.hid kl
          obtain ⟨x, hx⟩ : ∃ x, x = if b1 then C - 1 - c else c := ⟨_, rfl⟩
          obtain ⟨y, hy⟩ : ∃ y, y = if b2 then R - 1 - r else r := ⟨_, rfl⟩
          have hxl : x < C := by
            cases b1 with
            | true => simp only [if_true] at hx; omega
            | false => simp only [Bool.false_eq_true, if_false] at hx; omega
          have hyl : y < R := by
            cases b2 with
            | true => simp only [if_true] at hy; omega
            | false => simp only [Bool.false_eq_true, if_false] at hy; omega
          have hgk := grid_lt (C := C) (R := R) hxl hyl
          obtain ⟨eb, eo, s, hAe, hbe0, ce0, hso, hsl, _⟩ := HH.out.at_ (by omega) (by omega) (k := y * C + x) (by have := HL.out; omega)
          have u1 : IntKind.i64.wrap ((y : Int) * (C : Int)) = ((y * C : Nat) : Int) := by rw [IntWalk.i64_in _ (by rw [← Int.natCast_mul]; omega), Int.natCast_mul]
          obtain ⟨q, hq⟩ : ∃ q : Nat, q = y * C := ⟨_, rfl⟩
          rw [← hq] at u1 ce0 hgk
          have u2 : IntKind.i64.wrap ((q : Int) + (x : Int)) = ((q + x : Nat) : Int) := by rw [IntWalk.i64_in _ (by omega)]; omega
          obtain ⟨k, hk2⟩ : ∃ k : Nat, k = q + x := ⟨_, rfl⟩
          rw [← hk2] at u2 ce0 hgk
          have ik : (k : Int) < (rs.length : Int) := by have := HL.out; omega
          have u3 : IntKind.i64.wrap ((C : Int) - 1) = (C : Int) - 1 := IntWalk.i64_in _ (by omega)
          have u4 : b1 = true → IntKind.i64.wrap ((C : Int) - 1 - (c : Int)) = (x : Int) := fun hb => by subst hb; simp only [if_true] at hx; rw [IntWalk.i64_in _ (by omega)]; omega
          have u5 : b1 = false → x = c := fun hb => by subst hb; simpa using hx
          have u6 : IntKind.i64.wrap ((R : Int) - 1) = (R : Int) - 1 := IntWalk.i64_in _ (by omega)
          have u7 : b2 = true → IntKind.i64.wrap ((R : Int) - 1 - (r : Int)) = (y : Int) := fun hb => by subst hb; simp only [if_true] at hy; rw [IntWalk.i64_in _ (by omega)]; omega
          have u8 : b2 = false → y = r := fun hb => by subst hb; simpa using hy
          have hbr : rs.length ≤ 9223372036854775807 := by omega
          obtain ⟨sA, sc, sl⟩ := s
          simp only [SLf.val] at ce0 hso hsl
          have HXC := Lib.hid (HX0.out.trans HG.out.ext)
          have HBE := Lib.hid hbe0; have HCE := Lib.hid ce0
          have ce := (HXC.out.cell (p := ⟨eb, eo + k, none⟩) hbe0).trans ce0
          have hbe := Nat.lt_of_lt_of_le hbe0 HXC.out.size
          have HSO0 := Lib.hid hso; have HSL := Lib.hid hsl; have HAE := Lib.hid hAe
          clear ce0 hbe0 hso hsl hx hy hq hk2 hgl hgk hAe
          rw [HAE.out] at m2
          cases b1
          case false =>
            obtain rfl := u5 rfl
            clear u4 u5
            cases b2
            case false =>
              obtain rfl := u8 rfl
              clear u7 u8
              go_upto_region 13 with fail
              have HQ0 : Hid (QR w0 pb C R B (.slice A0 rows.length d0) rows ⟨sA, sc, sl⟩ [.pointer (some ⟨pb, 2, none⟩), .slice A0 rows.length d0, .pointer (some ⟨hb, 2, none⟩), .slice (some ⟨eb, eo, none⟩) rs.length hd, .int .i64 (y : Int), .pointer (some ⟨hb, 0, none⟩), .int .i64 (C : Int), .int .i64 (q : Int), .int .i64 (x : Int), .int .i64 (k : Int), .pointer (some ⟨eb, eo + k, none⟩), .slice sA sl.length sc, undef, undef, .pointer (some ⟨pb, 2, none⟩), undef] (List.replicate 16 none) wr.drew) := Lib.hid (QR.start (HG.out.next ((Ext.refl wr).drew)))
              have HNX := Lib.hid fun (W : World) x9 (h : Hw w0 W pb C R B x9 x9 (rows ++ [⟨sA, sc, sl⟩])) => h
              refine wp_region_q (QR w0 pb C R B (.slice A0 rows.length d0) rows ⟨sA, sc, sl⟩ _) (by kernel_rfl) (by kernel_rfl) HQ0.out ⟨?_, ?_, ?_, ?_, ?_, ?_, ?_, ?_, ?_, ?_, ?_, ?_, ?_, ?_, ?_, ?_, trivial⟩ ?_
              · intro V W hl hn hd hX hC; have hq : V.length = 16 := hl; obtain ⟨v0, v1, v2, v3, v4, v5, v6, v7, v8, v9, v10, v11, v12, v13, v14, v15, hV⟩ := qlen16 hq; subst hV; obtain rfl : v0 = none := hn
                clear hl hd hC hq
                refine StepZ.go rfl ?_
                go_simp
                exact hX.known 0 (by decide) (by decide) rfl
              · intro V W hl hn hd hX hC; have hq : V.length = 16 := hl; obtain ⟨v0, v1, v2, v3, v4, v5, v6, v7, v8, v9, v10, v11, v12, v13, v14, v15, hV⟩ := qlen16 hq; subst hV; obtain rfl : v1 = none := hn
                have h13 := hX.n13 rfl
                obtain ⟨k0, k1, k2, kl⟩ := (hX.a h13).blk.c3
                have g0 : v0.isSome = true := hd 0 (by decide); obtain ⟨u0, rfl⟩ := Option.isSome_iff_exists.1 g0; clear g0; obtain rfl := hX.kn 0 _ (by decide) rfl
                clear hl hd hC hq
                refine StepZ.go rfl ?_
                go_simp
                exact hX.known 1 (by decide) (by decide) rfl
              · intro V W hl hn hd hX hC; have hq : V.length = 16 := hl; obtain ⟨v0, v1, v2, v3, v4, v5, v6, v7, v8, v9, v10, v11, v12, v13, v14, v15, hV⟩ := qlen16 hq; subst hV; obtain rfl : v2 = none := hn
                clear hl hd hC hq
                refine StepZ.go rfl ?_
                go_simp
                exact hX.known 2 (by decide) (by decide) rfl
              · intro V W hl hn hd hX hC; have hq : V.length = 16 := hl; obtain ⟨v0, v1, v2, v3, v4, v5, v6, v7, v8, v9, v10, v11, v12, v13, v14, v15, hV⟩ := qlen16 hq; subst hV; obtain rfl : v3 = none := hn
                obtain ⟨m0, m1, m2, ml⟩ := (HB1.out.ext hX.ext).c3
                rw [HAE.out] at m2
                have g2 : v2.isSome = true := hd 2 (by decide); obtain ⟨u2, rfl⟩ := Option.isSome_iff_exists.1 g2; clear g2; obtain rfl := hX.kn 2 _ (by decide) rfl
                clear hl hd hC hq
                refine StepZ.go rfl ?_
                go_simp
                exact hX.known 3 (by decide) (by decide) rfl
              · intro V W hl hn hd hX hC; have hq : V.length = 16 := hl; obtain ⟨v0, v1, v2, v3, v4, v5, v6, v7, v8, v9, v10, v11, v12, v13, v14, v15, hV⟩ := qlen16 hq; subst hV; obtain rfl : v4 = none := hn
                clear hl hd hC hq
                refine StepZ.go rfl ?_
                go_simp
                exact hX.known 4 (by decide) (by decide) rfl
              · intro V W hl hn hd hX hC; have hq : V.length = 16 := hl; obtain ⟨v0, v1, v2, v3, v4, v5, v6, v7, v8, v9, v10, v11, v12, v13, v14, v15, hV⟩ := qlen16 hq; subst hV; obtain rfl : v5 = none := hn
                clear hl hd hC hq
                refine StepZ.go rfl ?_
                go_simp
                exact hX.known 5 (by decide) (by decide) rfl
              · intro V W hl hn hd hX hC; have hq : V.length = 16 := hl; obtain ⟨v0, v1, v2, v3, v4, v5, v6, v7, v8, v9, v10, v11, v12, v13, v14, v15, hV⟩ := qlen16 hq; subst hV; obtain rfl : v6 = none := hn
                obtain ⟨m0, m1, m2, ml⟩ := (HB1.out.ext hX.ext).c3
                have g5 : v5.isSome = true := hd 5 (by decide); obtain ⟨u5, rfl⟩ := Option.isSome_iff_exists.1 g5; clear g5; obtain rfl := hX.kn 5 _ (by decide) rfl
                clear hl hd hC hq
                refine StepZ.go rfl ?_
                go_simp
                exact hX.known 6 (by decide) (by decide) rfl
              · intro V W hl hn hd hX hC; have hq : V.length = 16 := hl; obtain ⟨v0, v1, v2, v3, v4, v5, v6, v7, v8, v9, v10, v11, v12, v13, v14, v15, hV⟩ := qlen16 hq; subst hV; obtain rfl : v7 = none := hn
                have g4 : v4.isSome = true := hd 4 (by decide); obtain ⟨u4, rfl⟩ := Option.isSome_iff_exists.1 g4; clear g4; obtain rfl := hX.kn 4 _ (by decide) rfl; have g6 : v6.isSome = true := hd 6 (by decide); obtain ⟨u6, rfl⟩ := Option.isSome_iff_exists.1 g6; clear g6; obtain rfl := hX.kn 6 _ (by decide) rfl
                clear hl hd hC hq
                refine StepZ.go rfl ?_
                go_simp
                exact hX.known 7 (by decide) (by decide) rfl
              · intro V W hl hn hd hX hC; have hq : V.length = 16 := hl; obtain ⟨v0, v1, v2, v3, v4, v5, v6, v7, v8, v9, v10, v11, v12, v13, v14, v15, hV⟩ := qlen16 hq; subst hV; obtain rfl : v8 = none := hn
                clear hl hd hC hq
                refine StepZ.go rfl ?_
                go_simp
                exact hX.known 8 (by decide) (by decide) rfl
              · intro V W hl hn hd hX hC; have hq : V.length = 16 := hl; obtain ⟨v0, v1, v2, v3, v4, v5, v6, v7, v8, v9, v10, v11, v12, v13, v14, v15, hV⟩ := qlen16 hq; subst hV; obtain rfl : v9 = none := hn
                have g7 : v7.isSome = true := hd 7 (by decide); obtain ⟨u7, rfl⟩ := Option.isSome_iff_exists.1 g7; clear g7; obtain rfl := hX.kn 7 _ (by decide) rfl; have g8 : v8.isSome = true := hd 8 (by decide); obtain ⟨u8, rfl⟩ := Option.isSome_iff_exists.1 g8; clear g8; obtain rfl := hX.kn 8 _ (by decide) rfl
                clear hl hd hC hq
                refine StepZ.go rfl ?_
                go_simp
                exact hX.known 9 (by decide) (by decide) rfl
              · intro V W hl hn hd hX hC; have hq : V.length = 16 := hl; obtain ⟨v0, v1, v2, v3, v4, v5, v6, v7, v8, v9, v10, v11, v12, v13, v14, v15, hV⟩ := qlen16 hq; subst hV; obtain rfl : v10 = none := hn
                have g3 : v3.isSome = true := hd 3 (by decide); obtain ⟨u3, rfl⟩ := Option.isSome_iff_exists.1 g3; clear g3; obtain rfl := hX.kn 3 _ (by decide) rfl; have g9 : v9.isSome = true := hd 9 (by decide); obtain ⟨u9, rfl⟩ := Option.isSome_iff_exists.1 g9; clear g9; obtain rfl := hX.kn 9 _ (by decide) rfl
                clear hl hd hC hq
                refine StepZ.go rfl ?_
                go_simp
                exact hX.known 10 (by decide) (by decide) rfl
              · intro V W hl hn hd hX hC; have hq : V.length = 16 := hl; obtain ⟨v0, v1, v2, v3, v4, v5, v6, v7, v8, v9, v10, v11, v12, v13, v14, v15, hV⟩ := qlen16 hq; subst hV; obtain rfl : v11 = none := hn
                have c9 := ((HX0.out.trans hX.ext).cell (p := ⟨eb, eo + k, none⟩) HBE.out).trans HCE.out
                have g10 : v10.isSome = true := hd 10 (by decide); obtain ⟨u10, rfl⟩ := Option.isSome_iff_exists.1 g10; clear g10; obtain rfl := hX.kn 10 _ (by decide) rfl
                clear hl hd hC hq
                refine StepZ.go rfl ?_
                go_simp
                exact hX.known 11 (by decide) (by decide) rfl
              · intro V W hl hn hd hX hC; have hq : V.length = 16 := hl; obtain ⟨v0, v1, v2, v3, v4, v5, v6, v7, v8, v9, v10, v11, v12, v13, v14, v15, hV⟩ := qlen16 hq; subst hV; obtain rfl : v12 = none := hn
                have h13 := hX.n13' rfl
                have h15 := hX.n15 h13
                have g11 : v11.isSome = true := hd 11 (by decide); obtain ⟨u11, rfl⟩ := Option.isSome_iff_exists.1 g11; clear g11; obtain rfl := hX.kn 11 _ (by decide) rfl
                clear hl hd hC hq
                refine StepZ.go rfl ?_
                go_simp
                exact hX.e12 h13 h15
              · intro V W hl hn hd hX hC; have hq : V.length = 16 := hl; obtain ⟨v0, v1, v2, v3, v4, v5, v6, v7, v8, v9, v10, v11, v12, v13, v14, v15, hV⟩ := qlen16 hq; subst hV; obtain rfl : v13 = none := hn
                have h15 := hX.n15 rfl
                have g1 : v1.isSome = true := hd 1 (by decide); obtain ⟨u1, rfl⟩ := Option.isSome_iff_exists.1 g1; clear g1; obtain rfl := hX.kn 1 _ (by decide) rfl
                have g12 : v12.isSome = true := hd 12 (by decide)
                obtain ⟨u12, rfl⟩ := Option.isSome_iff_exists.1 g12
                obtain ⟨g0, rfl, hb9⟩ := hX.p12 _ rfl rfl
                clear hl hd hC hq
                refine StepZ.appendC placeElt rfl (.tmp 44) (.tmp 55) rfl (pb + 1) rows.length (.slice A0 rows.length d0) (rows.map SLf.val) ?_ (hX.a rfl).ho.own (some ⟨g0, 0, none⟩) 1 1 [.slice sA sl.length sc] ?_ (RC.blk (n := 1) (size := 1) hb9 rfl (by omega)) (fun y hy => by rw [List.mem_singleton.1 hy]; rfl) (by omega) (hX.a rfl).blk.lt fun v' w' ho hg => hX.e13 h15 (HSO0.out.ext (HX0.out.trans hX.ext)) HSL.out hg ho
                · go_simp
                · go_simp
              · intro V W hl hn hd hX hC; have hq : V.length = 16 := hl; obtain ⟨v0, v1, v2, v3, v4, v5, v6, v7, v8, v9, v10, v11, v12, v13, v14, v15, hV⟩ := qlen16 hq; subst hV; obtain rfl : v14 = none := hn
                clear hl hd hC hq
                refine StepZ.go rfl ?_
                go_simp
                exact hX.known 14 (by decide) (by decide) rfl
              · intro V W hl hn hd hX hC; have hq : V.length = 16 := hl; obtain ⟨v0, v1, v2, v3, v4, v5, v6, v7, v8, v9, v10, v11, v12, v13, v14, v15, hV⟩ := qlen16 hq; subst hV; obtain rfl : v15 = none := hn
                have g14 : v14.isSome = true := hd 14 (by decide); obtain ⟨u14, rfl⟩ := Option.isSome_iff_exists.1 g14; clear g14; obtain rfl := hX.kn 14 _ (by decide) rfl
                have g13 : v13.isSome = true := hd 13 (by decide)
                obtain ⟨u13, rfl⟩ := Option.isSome_iff_exists.1 g13
                have hm9 := hX.b _ rfl rfl
                obtain ⟨k0, k1, k2, kl⟩ := hm9.blk.c3
                have F := hm9.blk.frozen 2
                obtain ⟨A9, c9, rfl, _⟩ := own_form hm9.ho.own (by rw [List.length_append, List.length_singleton]; omega)
                generalize (rows ++ [(⟨sA, sc, sl⟩ : SLf)]).length = n9 at *
                clear hl hd hC hq hm9
                refine StepZ.go rfl ?_
                go_simp
                exact ⟨rfl, hX.e15 _⟩
              · intro V W hl hV hX
                have hq : V.length = 16 := hl
                obtain ⟨v0, v1, v2, v3, v4, v5, v6, v7, v8, v9, v10, v11, v12, v13, v14, v15, hW⟩ := qlen16 hq
                subst hW
                have g15 : v15.isSome = true := hV 15 (by decide)
                obtain ⟨u15, rfl⟩ := Option.isSome_iff_exists.1 g15
                obtain ⟨x9, hm⟩ := hX.d _ rfl
                have HM := Lib.hid hm
                clear hl hV hq g15 hX hm HG HQ0 HNX
                simp only [putAll, known, List.map_cons, List.map_nil, Act.put, List.setIfInBounds_toArray, List.set_cons_zero, List.set_cons_succ, Option.getD_some]
                go_wp2
                go_roundw
                case rel => exact ⟨x + 1, _, _, by omega, by go_num, HM, Lib.hid (by rw [List.length_append, HN.out]; rfl)⟩
                case measure => simp [intOf]; omega
            case true =>
              replace u7 := u7 rfl
              clear u8
              go_upto_region 13 with fail
              have HQ0 : Hid (QR w0 pb C R B (.slice A0 rows.length d0) rows ⟨sA, sc, sl⟩ [.pointer (some ⟨pb, 2, none⟩), .slice A0 rows.length d0, .pointer (some ⟨hb, 2, none⟩), .slice (some ⟨eb, eo, none⟩) rs.length hd, .int .i64 (y : Int), .pointer (some ⟨hb, 0, none⟩), .int .i64 (C : Int), .int .i64 (q : Int), .int .i64 (x : Int), .int .i64 (k : Int), .pointer (some ⟨eb, eo + k, none⟩), .slice sA sl.length sc, undef, undef, .pointer (some ⟨pb, 2, none⟩), undef] (List.replicate 16 none) wr.drew) := Lib.hid (QR.start (HG.out.next ((Ext.refl wr).drew)))
              have HNX := Lib.hid fun (W : World) x9 (h : Hw w0 W pb C R B x9 x9 (rows ++ [⟨sA, sc, sl⟩])) => h
              refine wp_region_q (QR w0 pb C R B (.slice A0 rows.length d0) rows ⟨sA, sc, sl⟩ _) (by kernel_rfl) (by kernel_rfl) HQ0.out ⟨?_, ?_, ?_, ?_, ?_, ?_, ?_, ?_, ?_, ?_, ?_, ?_, ?_, ?_, ?_, ?_, trivial⟩ ?_
              · intro V W hl hn hd hX hC; have hq : V.length = 16 := hl; obtain ⟨v0, v1, v2, v3, v4, v5, v6, v7, v8, v9, v10, v11, v12, v13, v14, v15, hV⟩ := qlen16 hq; subst hV; obtain rfl : v0 = none := hn
                clear hl hd hC hq
                refine StepZ.go rfl ?_
                go_simp
                exact hX.known 0 (by decide) (by decide) rfl
              · intro V W hl hn hd hX hC; have hq : V.length = 16 := hl; obtain ⟨v0, v1, v2, v3, v4, v5, v6, v7, v8, v9, v10, v11, v12, v13, v14, v15, hV⟩ := qlen16 hq; subst hV; obtain rfl : v1 = none := hn
                have h13 := hX.n13 rfl
                obtain ⟨k0, k1, k2, kl⟩ := (hX.a h13).blk.c3
                have g0 : v0.isSome = true := hd 0 (by decide); obtain ⟨u0, rfl⟩ := Option.isSome_iff_exists.1 g0; clear g0; obtain rfl := hX.kn 0 _ (by decide) rfl
                clear hl hd hC hq
                refine StepZ.go rfl ?_
                go_simp
                exact hX.known 1 (by decide) (by decide) rfl
              · intro V W hl hn hd hX hC; have hq : V.length = 16 := hl; obtain ⟨v0, v1, v2, v3, v4, v5, v6, v7, v8, v9, v10, v11, v12, v13, v14, v15, hV⟩ := qlen16 hq; subst hV; obtain rfl : v2 = none := hn
                clear hl hd hC hq
                refine StepZ.go rfl ?_
                go_simp
                exact hX.known 2 (by decide) (by decide) rfl
              · intro V W hl hn hd hX hC; have hq : V.length = 16 := hl; obtain ⟨v0, v1, v2, v3, v4, v5, v6, v7, v8, v9, v10, v11, v12, v13, v14, v15, hV⟩ := qlen16 hq; subst hV; obtain rfl : v3 = none := hn
                obtain ⟨m0, m1, m2, ml⟩ := (HB1.out.ext hX.ext).c3
                rw [HAE.out] at m2
                have g2 : v2.isSome = true := hd 2 (by decide); obtain ⟨u2, rfl⟩ := Option.isSome_iff_exists.1 g2; clear g2; obtain rfl := hX.kn 2 _ (by decide) rfl
                clear hl hd hC hq
                refine StepZ.go rfl ?_
                go_simp
                exact hX.known 3 (by decide) (by decide) rfl
              · intro V W hl hn hd hX hC; have hq : V.length = 16 := hl; obtain ⟨v0, v1, v2, v3, v4, v5, v6, v7, v8, v9, v10, v11, v12, v13, v14, v15, hV⟩ := qlen16 hq; subst hV; obtain rfl : v4 = none := hn
                clear hl hd hC hq
                refine StepZ.go rfl ?_
                go_simp
                exact hX.known 4 (by decide) (by decide) rfl
              · intro V W hl hn hd hX hC; have hq : V.length = 16 := hl; obtain ⟨v0, v1, v2, v3, v4, v5, v6, v7, v8, v9, v10, v11, v12, v13, v14, v15, hV⟩ := qlen16 hq; subst hV; obtain rfl : v5 = none := hn
                clear hl hd hC hq
                refine StepZ.go rfl ?_
                go_simp
                exact hX.known 5 (by decide) (by decide) rfl
              · intro V W hl hn hd hX hC; have hq : V.length = 16 := hl; obtain ⟨v0, v1, v2, v3, v4, v5, v6, v7, v8, v9, v10, v11, v12, v13, v14, v15, hV⟩ := qlen16 hq; subst hV; obtain rfl : v6 = none := hn
                obtain ⟨m0, m1, m2, ml⟩ := (HB1.out.ext hX.ext).c3
                have g5 : v5.isSome = true := hd 5 (by decide); obtain ⟨u5, rfl⟩ := Option.isSome_iff_exists.1 g5; clear g5; obtain rfl := hX.kn 5 _ (by decide) rfl
                clear hl hd hC hq
                refine StepZ.go rfl ?_
                go_simp
                exact hX.known 6 (by decide) (by decide) rfl
              · intro V W hl hn hd hX hC; have hq : V.length = 16 := hl; obtain ⟨v0, v1, v2, v3, v4, v5, v6, v7, v8, v9, v10, v11, v12, v13, v14, v15, hV⟩ := qlen16 hq; subst hV; obtain rfl : v7 = none := hn
                have g4 : v4.isSome = true := hd 4 (by decide); obtain ⟨u4, rfl⟩ := Option.isSome_iff_exists.1 g4; clear g4; obtain rfl := hX.kn 4 _ (by decide) rfl; have g6 : v6.isSome = true := hd 6 (by decide); obtain ⟨u6, rfl⟩ := Option.isSome_iff_exists.1 g6; clear g6; obtain rfl := hX.kn 6 _ (by decide) rfl
                clear hl hd hC hq
                refine StepZ.go rfl ?_
                go_simp
                exact hX.known 7 (by decide) (by decide) rfl
              · intro V W hl hn hd hX hC; have hq : V.length = 16 := hl; obtain ⟨v0, v1, v2, v3, v4, v5, v6, v7, v8, v9, v10, v11, v12, v13, v14, v15, hV⟩ := qlen16 hq; subst hV; obtain rfl : v8 = none := hn
                clear hl hd hC hq
                refine StepZ.go rfl ?_
                go_simp
                exact hX.known 8 (by decide) (by decide) rfl
              · intro V W hl hn hd hX hC; have hq : V.length = 16 := hl; obtain ⟨v0, v1, v2, v3, v4, v5, v6, v7, v8, v9, v10, v11, v12, v13, v14, v15, hV⟩ := qlen16 hq; subst hV; obtain rfl : v9 = none := hn
                have g7 : v7.isSome = true := hd 7 (by decide); obtain ⟨u7, rfl⟩ := Option.isSome_iff_exists.1 g7; clear g7; obtain rfl := hX.kn 7 _ (by decide) rfl; have g8 : v8.isSome = true := hd 8 (by decide); obtain ⟨u8, rfl⟩ := Option.isSome_iff_exists.1 g8; clear g8; obtain rfl := hX.kn 8 _ (by decide) rfl
                clear hl hd hC hq
                refine StepZ.go rfl ?_
                go_simp
                exact hX.known 9 (by decide) (by decide) rfl
              · intro V W hl hn hd hX hC; have hq : V.length = 16 := hl; obtain ⟨v0, v1, v2, v3, v4, v5, v6, v7, v8, v9, v10, v11, v12, v13, v14, v15, hV⟩ := qlen16 hq; subst hV; obtain rfl : v10 = none := hn
                have g3 : v3.isSome = true := hd 3 (by decide); obtain ⟨u3, rfl⟩ := Option.isSome_iff_exists.1 g3; clear g3; obtain rfl := hX.kn 3 _ (by decide) rfl; have g9 : v9.isSome = true := hd 9 (by decide); obtain ⟨u9, rfl⟩ := Option.isSome_iff_exists.1 g9; clear g9; obtain rfl := hX.kn 9 _ (by decide) rfl
                clear hl hd hC hq
                refine StepZ.go rfl ?_
                go_simp
                exact hX.known 10 (by decide) (by decide) rfl
              · intro V W hl hn hd hX hC; have hq : V.length = 16 := hl; obtain ⟨v0, v1, v2, v3, v4, v5, v6, v7, v8, v9, v10, v11, v12, v13, v14, v15, hV⟩ := qlen16 hq; subst hV; obtain rfl : v11 = none := hn
                have c9 := ((HX0.out.trans hX.ext).cell (p := ⟨eb, eo + k, none⟩) HBE.out).trans HCE.out
                have g10 : v10.isSome = true := hd 10 (by decide); obtain ⟨u10, rfl⟩ := Option.isSome_iff_exists.1 g10; clear g10; obtain rfl := hX.kn 10 _ (by decide) rfl
                clear hl hd hC hq
                refine StepZ.go rfl ?_
                go_simp
                exact hX.known 11 (by decide) (by decide) rfl
              · intro V W hl hn hd hX hC; have hq : V.length = 16 := hl; obtain ⟨v0, v1, v2, v3, v4, v5, v6, v7, v8, v9, v10, v11, v12, v13, v14, v15, hV⟩ := qlen16 hq; subst hV; obtain rfl : v12 = none := hn
                have h13 := hX.n13' rfl
                have h15 := hX.n15 h13
                have g11 : v11.isSome = true := hd 11 (by decide); obtain ⟨u11, rfl⟩ := Option.isSome_iff_exists.1 g11; clear g11; obtain rfl := hX.kn 11 _ (by decide) rfl
                clear hl hd hC hq
                refine StepZ.go rfl ?_
                go_simp
                exact hX.e12 h13 h15
              · intro V W hl hn hd hX hC; have hq : V.length = 16 := hl; obtain ⟨v0, v1, v2, v3, v4, v5, v6, v7, v8, v9, v10, v11, v12, v13, v14, v15, hV⟩ := qlen16 hq; subst hV; obtain rfl : v13 = none := hn
                have h15 := hX.n15 rfl
                have g1 : v1.isSome = true := hd 1 (by decide); obtain ⟨u1, rfl⟩ := Option.isSome_iff_exists.1 g1; clear g1; obtain rfl := hX.kn 1 _ (by decide) rfl
                have g12 : v12.isSome = true := hd 12 (by decide)
                obtain ⟨u12, rfl⟩ := Option.isSome_iff_exists.1 g12
                obtain ⟨g0, rfl, hb9⟩ := hX.p12 _ rfl rfl
                clear hl hd hC hq
                refine StepZ.appendC placeElt rfl (.tmp 44) (.tmp 55) rfl (pb + 1) rows.length (.slice A0 rows.length d0) (rows.map SLf.val) ?_ (hX.a rfl).ho.own (some ⟨g0, 0, none⟩) 1 1 [.slice sA sl.length sc] ?_ (RC.blk (n := 1) (size := 1) hb9 rfl (by omega)) (fun y hy => by rw [List.mem_singleton.1 hy]; rfl) (by omega) (hX.a rfl).blk.lt fun v' w' ho hg => hX.e13 h15 (HSO0.out.ext (HX0.out.trans hX.ext)) HSL.out hg ho
                · go_simp
                · go_simp
              · intro V W hl hn hd hX hC; have hq : V.length = 16 := hl; obtain ⟨v0, v1, v2, v3, v4, v5, v6, v7, v8, v9, v10, v11, v12, v13, v14, v15, hV⟩ := qlen16 hq; subst hV; obtain rfl : v14 = none := hn
                clear hl hd hC hq
                refine StepZ.go rfl ?_
                go_simp
                exact hX.known 14 (by decide) (by decide) rfl
              · intro V W hl hn hd hX hC; have hq : V.length = 16 := hl; obtain ⟨v0, v1, v2, v3, v4, v5, v6, v7, v8, v9, v10, v11, v12, v13, v14, v15, hV⟩ := qlen16 hq; subst hV; obtain rfl : v15 = none := hn
                have g14 : v14.isSome = true := hd 14 (by decide); obtain ⟨u14, rfl⟩ := Option.isSome_iff_exists.1 g14; clear g14; obtain rfl := hX.kn 14 _ (by decide) rfl
                have g13 : v13.isSome = true := hd 13 (by decide)
                obtain ⟨u13, rfl⟩ := Option.isSome_iff_exists.1 g13
                have hm9 := hX.b _ rfl rfl
                obtain ⟨k0, k1, k2, kl⟩ := hm9.blk.c3
                have F := hm9.blk.frozen 2
                obtain ⟨A9, c9, rfl, _⟩ := own_form hm9.ho.own (by rw [List.length_append, List.length_singleton]; omega)
                generalize (rows ++ [(⟨sA, sc, sl⟩ : SLf)]).length = n9 at *
                clear hl hd hC hq hm9
                refine StepZ.go rfl ?_
                go_simp
                exact ⟨rfl, hX.e15 _⟩
              · intro V W hl hV hX
                have hq : V.length = 16 := hl
                obtain ⟨v0, v1, v2, v3, v4, v5, v6, v7, v8, v9, v10, v11, v12, v13, v14, v15, hW⟩ := qlen16 hq
                subst hW
                have g15 : v15.isSome = true := hV 15 (by decide)
                obtain ⟨u15, rfl⟩ := Option.isSome_iff_exists.1 g15
                obtain ⟨x9, hm⟩ := hX.d _ rfl
                have HM := Lib.hid hm
                clear hl hV hq g15 hX hm HG HQ0 HNX
                simp only [putAll, known, List.map_cons, List.map_nil, Act.put, List.setIfInBounds_toArray, List.set_cons_zero, List.set_cons_succ, Option.getD_some]
                go_wp2
                go_roundw
                case rel => exact ⟨x + 1, _, _, by omega, by go_num, HM, Lib.hid (by rw [List.length_append, HN.out]; rfl)⟩
                case measure => simp [intOf]; omega
          case true =>
            replace u4 := u4 rfl
            clear u5
            cases b2
            case false =>
              obtain rfl := u8 rfl
              clear u7 u8
              go_upto_region 13 with fail
              have HQ0 : Hid (QR w0 pb C R B (.slice A0 rows.length d0) rows ⟨sA, sc, sl⟩ [.pointer (some ⟨pb, 2, none⟩), .slice A0 rows.length d0, .pointer (some ⟨hb, 2, none⟩), .slice (some ⟨eb, eo, none⟩) rs.length hd, .int .i64 (y : Int), .pointer (some ⟨hb, 0, none⟩), .int .i64 (C : Int), .int .i64 (q : Int), .int .i64 (x : Int), .int .i64 (k : Int), .pointer (some ⟨eb, eo + k, none⟩), .slice sA sl.length sc, undef, undef, .pointer (some ⟨pb, 2, none⟩), undef] (List.replicate 16 none) wr.drew) := Lib.hid (QR.start (HG.out.next ((Ext.refl wr).drew)))
              have HNX := Lib.hid fun (W : World) x9 (h : Hw w0 W pb C R B x9 x9 (rows ++ [⟨sA, sc, sl⟩])) => h
              refine wp_region_q (QR w0 pb C R B (.slice A0 rows.length d0) rows ⟨sA, sc, sl⟩ _) (by kernel_rfl) (by kernel_rfl) HQ0.out ⟨?_, ?_, ?_, ?_, ?_, ?_, ?_, ?_, ?_, ?_, ?_, ?_, ?_, ?_, ?_, ?_, trivial⟩ ?_
              · intro V W hl hn hd hX hC; have hq : V.length = 16 := hl; obtain ⟨v0, v1, v2, v3, v4, v5, v6, v7, v8, v9, v10, v11, v12, v13, v14, v15, hV⟩ := qlen16 hq; subst hV; obtain rfl : v0 = none := hn
                clear hl hd hC hq
                refine StepZ.go rfl ?_
                go_simp
                exact hX.known 0 (by decide) (by decide) rfl
              · intro V W hl hn hd hX hC; have hq : V.length = 16 := hl; obtain ⟨v0, v1, v2, v3, v4, v5, v6, v7, v8, v9, v10, v11, v12, v13, v14, v15, hV⟩ := qlen16 hq; subst hV; obtain rfl : v1 = none := hn
                have h13 := hX.n13 rfl
                obtain ⟨k0, k1, k2, kl⟩ := (hX.a h13).blk.c3
                have g0 : v0.isSome = true := hd 0 (by decide); obtain ⟨u0, rfl⟩ := Option.isSome_iff_exists.1 g0; clear g0; obtain rfl := hX.kn 0 _ (by decide) rfl
                clear hl hd hC hq
                refine StepZ.go rfl ?_
                go_simp
                exact hX.known 1 (by decide) (by decide) rfl
              · intro V W hl hn hd hX hC; have hq : V.length = 16 := hl; obtain ⟨v0, v1, v2, v3, v4, v5, v6, v7, v8, v9, v10, v11, v12, v13, v14, v15, hV⟩ := qlen16 hq; subst hV; obtain rfl : v2 = none := hn
                clear hl hd hC hq
                refine StepZ.go rfl ?_
                go_simp
                exact hX.known 2 (by decide) (by decide) rfl
              · intro V W hl hn hd hX hC; have hq : V.length = 16 := hl; obtain ⟨v0, v1, v2, v3, v4, v5, v6, v7, v8, v9, v10, v11, v12, v13, v14, v15, hV⟩ := qlen16 hq; subst hV; obtain rfl : v3 = none := hn
                obtain ⟨m0, m1, m2, ml⟩ := (HB1.out.ext hX.ext).c3
                rw [HAE.out] at m2
                have g2 : v2.isSome = true := hd 2 (by decide); obtain ⟨u2, rfl⟩ := Option.isSome_iff_exists.1 g2; clear g2; obtain rfl := hX.kn 2 _ (by decide) rfl
                clear hl hd hC hq
                refine StepZ.go rfl ?_
                go_simp
                exact hX.known 3 (by decide) (by decide) rfl
              · intro V W hl hn hd hX hC; have hq : V.length = 16 := hl; obtain ⟨v0, v1, v2, v3, v4, v5, v6, v7, v8, v9, v10, v11, v12, v13, v14, v15, hV⟩ := qlen16 hq; subst hV; obtain rfl : v4 = none := hn
                clear hl hd hC hq
                refine StepZ.go rfl ?_
                go_simp
                exact hX.known 4 (by decide) (by decide) rfl
              · intro V W hl hn hd hX hC; have hq : V.length = 16 := hl; obtain ⟨v0, v1, v2, v3, v4, v5, v6, v7, v8, v9, v10, v11, v12, v13, v14, v15, hV⟩ := qlen16 hq; subst hV; obtain rfl : v5 = none := hn
                clear hl hd hC hq
                refine StepZ.go rfl ?_
                go_simp
                exact hX.known 5 (by decide) (by decide) rfl
              · intro V W hl hn hd hX hC; have hq : V.length = 16 := hl; obtain ⟨v0, v1, v2, v3, v4, v5, v6, v7, v8, v9, v10, v11, v12, v13, v14, v15, hV⟩ := qlen16 hq; subst hV; obtain rfl : v6 = none := hn
                obtain ⟨m0, m1, m2, ml⟩ := (HB1.out.ext hX.ext).c3
                have g5 : v5.isSome = true := hd 5 (by decide); obtain ⟨u5, rfl⟩ := Option.isSome_iff_exists.1 g5; clear g5; obtain rfl := hX.kn 5 _ (by decide) rfl
                clear hl hd hC hq
                refine StepZ.go rfl ?_
                go_simp
                exact hX.known 6 (by decide) (by decide) rfl
              · intro V W hl hn hd hX hC; have hq : V.length = 16 := hl; obtain ⟨v0, v1, v2, v3, v4, v5, v6, v7, v8, v9, v10, v11, v12, v13, v14, v15, hV⟩ := qlen16 hq; subst hV; obtain rfl : v7 = none := hn
                have g4 : v4.isSome = true := hd 4 (by decide); obtain ⟨u4, rfl⟩ := Option.isSome_iff_exists.1 g4; clear g4; obtain rfl := hX.kn 4 _ (by decide) rfl; have g6 : v6.isSome = true := hd 6 (by decide); obtain ⟨u6, rfl⟩ := Option.isSome_iff_exists.1 g6; clear g6; obtain rfl := hX.kn 6 _ (by decide) rfl
                clear hl hd hC hq
                refine StepZ.go rfl ?_
                go_simp
                exact hX.known 7 (by decide) (by decide) rfl
              · intro V W hl hn hd hX hC; have hq : V.length = 16 := hl; obtain ⟨v0, v1, v2, v3, v4, v5, v6, v7, v8, v9, v10, v11, v12, v13, v14, v15, hV⟩ := qlen16 hq; subst hV; obtain rfl : v8 = none := hn
                clear hl hd hC hq
                refine StepZ.go rfl ?_
                go_simp
                exact hX.known 8 (by decide) (by decide) rfl
              · intro V W hl hn hd hX hC; have hq : V.length = 16 := hl; obtain ⟨v0, v1, v2, v3, v4, v5, v6, v7, v8, v9, v10, v11, v12, v13, v14, v15, hV⟩ := qlen16 hq; subst hV; obtain rfl : v9 = none := hn
                have g7 : v7.isSome = true := hd 7 (by decide); obtain ⟨u7, rfl⟩ := Option.isSome_iff_exists.1 g7; clear g7; obtain rfl := hX.kn 7 _ (by decide) rfl; have g8 : v8.isSome = true := hd 8 (by decide); obtain ⟨u8, rfl⟩ := Option.isSome_iff_exists.1 g8; clear g8; obtain rfl := hX.kn 8 _ (by decide) rfl
                clear hl hd hC hq
                refine StepZ.go rfl ?_
                go_simp
                exact hX.known 9 (by decide) (by decide) rfl
              · intro V W hl hn hd hX hC; have hq : V.length = 16 := hl; obtain ⟨v0, v1, v2, v3, v4, v5, v6, v7, v8, v9, v10, v11, v12, v13, v14, v15, hV⟩ := qlen16 hq; subst hV; obtain rfl : v10 = none := hn
                have g3 : v3.isSome = true := hd 3 (by decide); obtain ⟨u3, rfl⟩ := Option.isSome_iff_exists.1 g3; clear g3; obtain rfl := hX.kn 3 _ (by decide) rfl; have g9 : v9.isSome = true := hd 9 (by decide); obtain ⟨u9, rfl⟩ := Option.isSome_iff_exists.1 g9; clear g9; obtain rfl := hX.kn 9 _ (by decide) rfl
                clear hl hd hC hq
                refine StepZ.go rfl ?_
                go_simp
                exact hX.known 10 (by decide) (by decide) rfl
              · intro V W hl hn hd hX hC; have hq : V.length = 16 := hl; obtain ⟨v0, v1, v2, v3, v4, v5, v6, v7, v8, v9, v10, v11, v12, v13, v14, v15, hV⟩ := qlen16 hq; subst hV; obtain rfl : v11 = none := hn
                have c9 := ((HX0.out.trans hX.ext).cell (p := ⟨eb, eo + k, none⟩) HBE.out).trans HCE.out
                have g10 : v10.isSome = true := hd 10 (by decide); obtain ⟨u10, rfl⟩ := Option.isSome_iff_exists.1 g10; clear g10; obtain rfl := hX.kn 10 _ (by decide) rfl
                clear hl hd hC hq
                refine StepZ.go rfl ?_
                go_simp
                exact hX.known 11 (by decide) (by decide) rfl
              · intro V W hl hn hd hX hC; have hq : V.length = 16 := hl; obtain ⟨v0, v1, v2, v3, v4, v5, v6, v7, v8, v9, v10, v11, v12, v13, v14, v15, hV⟩ := qlen16 hq; subst hV; obtain rfl : v12 = none := hn
                have h13 := hX.n13' rfl
                have h15 := hX.n15 h13
                have g11 : v11.isSome = true := hd 11 (by decide); obtain ⟨u11, rfl⟩ := Option.isSome_iff_exists.1 g11; clear g11; obtain rfl := hX.kn 11 _ (by decide) rfl
                clear hl hd hC hq
                refine StepZ.go rfl ?_
                go_simp
                exact hX.e12 h13 h15
              · intro V W hl hn hd hX hC; have hq : V.length = 16 := hl; obtain ⟨v0, v1, v2, v3, v4, v5, v6, v7, v8, v9, v10, v11, v12, v13, v14, v15, hV⟩ := qlen16 hq; subst hV; obtain rfl : v13 = none := hn
                have h15 := hX.n15 rfl
                have g1 : v1.isSome = true := hd 1 (by decide); obtain ⟨u1, rfl⟩ := Option.isSome_iff_exists.1 g1; clear g1; obtain rfl := hX.kn 1 _ (by decide) rfl
                have g12 : v12.isSome = true := hd 12 (by decide)
                obtain ⟨u12, rfl⟩ := Option.isSome_iff_exists.1 g12
                obtain ⟨g0, rfl, hb9⟩ := hX.p12 _ rfl rfl
                clear hl hd hC hq
                refine StepZ.appendC placeElt rfl (.tmp 44) (.tmp 55) rfl (pb + 1) rows.length (.slice A0 rows.length d0) (rows.map SLf.val) ?_ (hX.a rfl).ho.own (some ⟨g0, 0, none⟩) 1 1 [.slice sA sl.length sc] ?_ (RC.blk (n := 1) (size := 1) hb9 rfl (by omega)) (fun y hy => by rw [List.mem_singleton.1 hy]; rfl) (by omega) (hX.a rfl).blk.lt fun v' w' ho hg => hX.e13 h15 (HSO0.out.ext (HX0.out.trans hX.ext)) HSL.out hg ho
                · go_simp
                · go_simp
              · intro V W hl hn hd hX hC; have hq : V.length = 16 := hl; obtain ⟨v0, v1, v2, v3, v4, v5, v6, v7, v8, v9, v10, v11, v12, v13, v14, v15, hV⟩ := qlen16 hq; subst hV; obtain rfl : v14 = none := hn
                clear hl hd hC hq
                refine StepZ.go rfl ?_
                go_simp
                exact hX.known 14 (by decide) (by decide) rfl
              · intro V W hl hn hd hX hC; have hq : V.length = 16 := hl; obtain ⟨v0, v1, v2, v3, v4, v5, v6, v7, v8, v9, v10, v11, v12, v13, v14, v15, hV⟩ := qlen16 hq; subst hV; obtain rfl : v15 = none := hn
                have g14 : v14.isSome = true := hd 14 (by decide); obtain ⟨u14, rfl⟩ := Option.isSome_iff_exists.1 g14; clear g14; obtain rfl := hX.kn 14 _ (by decide) rfl
                have g13 : v13.isSome = true := hd 13 (by decide)
                obtain ⟨u13, rfl⟩ := Option.isSome_iff_exists.1 g13
                have hm9 := hX.b _ rfl rfl
                obtain ⟨k0, k1, k2, kl⟩ := hm9.blk.c3
                have F := hm9.blk.frozen 2
                obtain ⟨A9, c9, rfl, _⟩ := own_form hm9.ho.own (by rw [List.length_append, List.length_singleton]; omega)
                generalize (rows ++ [(⟨sA, sc, sl⟩ : SLf)]).length = n9 at *
                clear hl hd hC hq hm9
                refine StepZ.go rfl ?_
                go_simp
                exact ⟨rfl, hX.e15 _⟩
              · intro V W hl hV hX
                have hq : V.length = 16 := hl
                obtain ⟨v0, v1, v2, v3, v4, v5, v6, v7, v8, v9, v10, v11, v12, v13, v14, v15, hW⟩ := qlen16 hq
                subst hW
                have g15 : v15.isSome = true := hV 15 (by decide)
                obtain ⟨u15, rfl⟩ := Option.isSome_iff_exists.1 g15
                obtain ⟨x9, hm⟩ := hX.d _ rfl
                have HM := Lib.hid hm
                clear hl hV hq g15 hX hm HG HQ0 HNX
                simp only [putAll, known, List.map_cons, List.map_nil, Act.put, List.setIfInBounds_toArray, List.set_cons_zero, List.set_cons_succ, Option.getD_some]
                go_wp2
                go_roundw
                case rel => exact ⟨c + 1, _, _, by omega, by go_num, HM, Lib.hid (by rw [List.length_append, HN.out]; rfl)⟩
                case measure => simp [intOf]; omega
            case true =>
              replace u7 := u7 rfl
              clear u8
              go_upto_region 13 with fail
              have HQ0 : Hid (QR w0 pb C R B (.slice A0 rows.length d0) rows ⟨sA, sc, sl⟩ [.pointer (some ⟨pb, 2, none⟩), .slice A0 rows.length d0, .pointer (some ⟨hb, 2, none⟩), .slice (some ⟨eb, eo, none⟩) rs.length hd, .int .i64 (y : Int), .pointer (some ⟨hb, 0, none⟩), .int .i64 (C : Int), .int .i64 (q : Int), .int .i64 (x : Int), .int .i64 (k : Int), .pointer (some ⟨eb, eo + k, none⟩), .slice sA sl.length sc, undef, undef, .pointer (some ⟨pb, 2, none⟩), undef] (List.replicate 16 none) wr.drew) := Lib.hid (QR.start (HG.out.next ((Ext.refl wr).drew)))
              have HNX := Lib.hid fun (W : World) x9 (h : Hw w0 W pb C R B x9 x9 (rows ++ [⟨sA, sc, sl⟩])) => h
              refine wp_region_q (QR w0 pb C R B (.slice A0 rows.length d0) rows ⟨sA, sc, sl⟩ _) (by kernel_rfl) (by kernel_rfl) HQ0.out ⟨?_, ?_, ?_, ?_, ?_, ?_, ?_, ?_, ?_, ?_, ?_, ?_, ?_, ?_, ?_, ?_, trivial⟩ ?_
              · intro V W hl hn hd hX hC; have hq : V.length = 16 := hl; obtain ⟨v0, v1, v2, v3, v4, v5, v6, v7, v8, v9, v10, v11, v12, v13, v14, v15, hV⟩ := qlen16 hq; subst hV; obtain rfl : v0 = none := hn
                clear hl hd hC hq
                refine StepZ.go rfl ?_
                go_simp
                exact hX.known 0 (by decide) (by decide) rfl
              · intro V W hl hn hd hX hC; have hq : V.length = 16 := hl; obtain ⟨v0, v1, v2, v3, v4, v5, v6, v7, v8, v9, v10, v11, v12, v13, v14, v15, hV⟩ := qlen16 hq; subst hV; obtain rfl : v1 = none := hn
                have h13 := hX.n13 rfl
                obtain ⟨k0, k1, k2, kl⟩ := (hX.a h13).blk.c3
                have g0 : v0.isSome = true := hd 0 (by decide); obtain ⟨u0, rfl⟩ := Option.isSome_iff_exists.1 g0; clear g0; obtain rfl := hX.kn 0 _ (by decide) rfl
                clear hl hd hC hq
                refine StepZ.go rfl ?_
                go_simp
                exact hX.known 1 (by decide) (by decide) rfl
              · intro V W hl hn hd hX hC; have hq : V.length = 16 := hl; obtain ⟨v0, v1, v2, v3, v4, v5, v6, v7, v8, v9, v10, v11, v12, v13, v14, v15, hV⟩ := qlen16 hq; subst hV; obtain rfl : v2 = none := hn
                clear hl hd hC hq
                refine StepZ.go rfl ?_
                go_simp
                exact hX.known 2 (by decide) (by decide) rfl
              · intro V W hl hn hd hX hC; have hq : V.length = 16 := hl; obtain ⟨v0, v1, v2, v3, v4, v5, v6, v7, v8, v9, v10, v11, v12, v13, v14, v15, hV⟩ := qlen16 hq; subst hV; obtain rfl : v3 = none := hn
                obtain ⟨m0, m1, m2, ml⟩ := (HB1.out.ext hX.ext).c3
                rw [HAE.out] at m2
                have g2 : v2.isSome = true := hd 2 (by decide); obtain ⟨u2, rfl⟩ := Option.isSome_iff_exists.1 g2; clear g2; obtain rfl := hX.kn 2 _ (by decide) rfl
                clear hl hd hC hq
                refine StepZ.go rfl ?_
                go_simp
                exact hX.known 3 (by decide) (by decide) rfl
              · intro V W hl hn hd hX hC; have hq : V.length = 16 := hl; obtain ⟨v0, v1, v2, v3, v4, v5, v6, v7, v8, v9, v10, v11, v12, v13, v14, v15, hV⟩ := qlen16 hq; subst hV; obtain rfl : v4 = none := hn
                clear hl hd hC hq
                refine StepZ.go rfl ?_
                go_simp
                exact hX.known 4 (by decide) (by decide) rfl
              · intro V W hl hn hd hX hC; have hq : V.length = 16 := hl; obtain ⟨v0, v1, v2, v3, v4, v5, v6, v7, v8, v9, v10, v11, v12, v13, v14, v15, hV⟩ := qlen16 hq; subst hV; obtain rfl : v5 = none := hn
                clear hl hd hC hq
                refine StepZ.go rfl ?_
                go_simp
                exact hX.known 5 (by decide) (by decide) rfl
              · intro V W hl hn hd hX hC; have hq : V.length = 16 := hl; obtain ⟨v0, v1, v2, v3, v4, v5, v6, v7, v8, v9, v10, v11, v12, v13, v14, v15, hV⟩ := qlen16 hq; subst hV; obtain rfl : v6 = none := hn
                obtain ⟨m0, m1, m2, ml⟩ := (HB1.out.ext hX.ext).c3
                have g5 : v5.isSome = true := hd 5 (by decide); obtain ⟨u5, rfl⟩ := Option.isSome_iff_exists.1 g5; clear g5; obtain rfl := hX.kn 5 _ (by decide) rfl
                clear hl hd hC hq
                refine StepZ.go rfl ?_
                go_simp
                exact hX.known 6 (by decide) (by decide) rfl
              · intro V W hl hn hd hX hC; have hq : V.length = 16 := hl; obtain ⟨v0, v1, v2, v3, v4, v5, v6, v7, v8, v9, v10, v11, v12, v13, v14, v15, hV⟩ := qlen16 hq; subst hV; obtain rfl : v7 = none := hn
                have g4 : v4.isSome = true := hd 4 (by decide); obtain ⟨u4, rfl⟩ := Option.isSome_iff_exists.1 g4; clear g4; obtain rfl := hX.kn 4 _ (by decide) rfl; have g6 : v6.isSome = true := hd 6 (by decide); obtain ⟨u6, rfl⟩ := Option.isSome_iff_exists.1 g6; clear g6; obtain rfl := hX.kn 6 _ (by decide) rfl
                clear hl hd hC hq
                refine StepZ.go rfl ?_
                go_simp
                exact hX.known 7 (by decide) (by decide) rfl
              · intro V W hl hn hd hX hC; have hq : V.length = 16 := hl; obtain ⟨v0, v1, v2, v3, v4, v5, v6, v7, v8, v9, v10, v11, v12, v13, v14, v15, hV⟩ := qlen16 hq; subst hV; obtain rfl : v8 = none := hn
                clear hl hd hC hq
                refine StepZ.go rfl ?_
                go_simp
                exact hX.known 8 (by decide) (by decide) rfl
              · intro V W hl hn hd hX hC; have hq : V.length = 16 := hl; obtain ⟨v0, v1, v2, v3, v4, v5, v6, v7, v8, v9, v10, v11, v12, v13, v14, v15, hV⟩ := qlen16 hq; subst hV; obtain rfl : v9 = none := hn
                have g7 : v7.isSome = true := hd 7 (by decide); obtain ⟨u7, rfl⟩ := Option.isSome_iff_exists.1 g7; clear g7; obtain rfl := hX.kn 7 _ (by decide) rfl; have g8 : v8.isSome = true := hd 8 (by decide); obtain ⟨u8, rfl⟩ := Option.isSome_iff_exists.1 g8; clear g8; obtain rfl := hX.kn 8 _ (by decide) rfl
                clear hl hd hC hq
                refine StepZ.go rfl ?_
                go_simp
                exact hX.known 9 (by decide) (by decide) rfl
              · intro V W hl hn hd hX hC; have hq : V.length = 16 := hl; obtain ⟨v0, v1, v2, v3, v4, v5, v6, v7, v8, v9, v10, v11, v12, v13, v14, v15, hV⟩ := qlen16 hq; subst hV; obtain rfl : v10 = none := hn
                have g3 : v3.isSome = true := hd 3 (by decide); obtain ⟨u3, rfl⟩ := Option.isSome_iff_exists.1 g3; clear g3; obtain rfl := hX.kn 3 _ (by decide) rfl; have g9 : v9.isSome = true := hd 9 (by decide); obtain ⟨u9, rfl⟩ := Option.isSome_iff_exists.1 g9; clear g9; obtain rfl := hX.kn 9 _ (by decide) rfl
                clear hl hd hC hq
                refine StepZ.go rfl ?_
                go_simp
                exact hX.known 10 (by decide) (by decide) rfl
              · intro V W hl hn hd hX hC; have hq : V.length = 16 := hl; obtain ⟨v0, v1, v2, v3, v4, v5, v6, v7, v8, v9, v10, v11, v12, v13, v14, v15, hV⟩ := qlen16 hq; subst hV; obtain rfl : v11 = none := hn
                have c9 := ((HX0.out.trans hX.ext).cell (p := ⟨eb, eo + k, none⟩) HBE.out).trans HCE.out
                have g10 : v10.isSome = true := hd 10 (by decide); obtain ⟨u10, rfl⟩ := Option.isSome_iff_exists.1 g10; clear g10; obtain rfl := hX.kn 10 _ (by decide) rfl
                clear hl hd hC hq
                refine StepZ.go rfl ?_
                go_simp
                exact hX.known 11 (by decide) (by decide) rfl
              · intro V W hl hn hd hX hC; have hq : V.length = 16 := hl; obtain ⟨v0, v1, v2, v3, v4, v5, v6, v7, v8, v9, v10, v11, v12, v13, v14, v15, hV⟩ := qlen16 hq; subst hV; obtain rfl : v12 = none := hn
                have h13 := hX.n13' rfl
                have h15 := hX.n15 h13
                have g11 : v11.isSome = true := hd 11 (by decide); obtain ⟨u11, rfl⟩ := Option.isSome_iff_exists.1 g11; clear g11; obtain rfl := hX.kn 11 _ (by decide) rfl
                clear hl hd hC hq
                refine StepZ.go rfl ?_
                go_simp
                exact hX.e12 h13 h15
              · intro V W hl hn hd hX hC; have hq : V.length = 16 := hl; obtain ⟨v0, v1, v2, v3, v4, v5, v6, v7, v8, v9, v10, v11, v12, v13, v14, v15, hV⟩ := qlen16 hq; subst hV; obtain rfl : v13 = none := hn
                have h15 := hX.n15 rfl
                have g1 : v1.isSome = true := hd 1 (by decide); obtain ⟨u1, rfl⟩ := Option.isSome_iff_exists.1 g1; clear g1; obtain rfl := hX.kn 1 _ (by decide) rfl
                have g12 : v12.isSome = true := hd 12 (by decide)
                obtain ⟨u12, rfl⟩ := Option.isSome_iff_exists.1 g12
                obtain ⟨g0, rfl, hb9⟩ := hX.p12 _ rfl rfl
                clear hl hd hC hq
                refine StepZ.appendC placeElt rfl (.tmp 44) (.tmp 55) rfl (pb + 1) rows.length (.slice A0 rows.length d0) (rows.map SLf.val) ?_ (hX.a rfl).ho.own (some ⟨g0, 0, none⟩) 1 1 [.slice sA sl.length sc] ?_ (RC.blk (n := 1) (size := 1) hb9 rfl (by omega)) (fun y hy => by rw [List.mem_singleton.1 hy]; rfl) (by omega) (hX.a rfl).blk.lt fun v' w' ho hg => hX.e13 h15 (HSO0.out.ext (HX0.out.trans hX.ext)) HSL.out hg ho
                · go_simp
                · go_simp
              · intro V W hl hn hd hX hC; have hq : V.length = 16 := hl; obtain ⟨v0, v1, v2, v3, v4, v5, v6, v7, v8, v9, v10, v11, v12, v13, v14, v15, hV⟩ := qlen16 hq; subst hV; obtain rfl : v14 = none := hn
                clear hl hd hC hq
                refine StepZ.go rfl ?_
                go_simp
                exact hX.known 14 (by decide) (by decide) rfl
              · intro V W hl hn hd hX hC; have hq : V.length = 16 := hl; obtain ⟨v0, v1, v2, v3, v4, v5, v6, v7, v8, v9, v10, v11, v12, v13, v14, v15, hV⟩ := qlen16 hq; subst hV; obtain rfl : v15 = none := hn
                have g14 : v14.isSome = true := hd 14 (by decide); obtain ⟨u14, rfl⟩ := Option.isSome_iff_exists.1 g14; clear g14; obtain rfl := hX.kn 14 _ (by decide) rfl
                have g13 : v13.isSome = true := hd 13 (by decide)
                obtain ⟨u13, rfl⟩ := Option.isSome_iff_exists.1 g13
                have hm9 := hX.b _ rfl rfl
                obtain ⟨k0, k1, k2, kl⟩ := hm9.blk.c3
                have F := hm9.blk.frozen 2
                obtain ⟨A9, c9, rfl, _⟩ := own_form hm9.ho.own (by rw [List.length_append, List.length_singleton]; omega)
                generalize (rows ++ [(⟨sA, sc, sl⟩ : SLf)]).length = n9 at *
                clear hl hd hC hq hm9
                refine StepZ.go rfl ?_
                go_simp
                exact ⟨rfl, hX.e15 _⟩
              · intro V W hl hV hX
                have hq : V.length = 16 := hl
                obtain ⟨v0, v1, v2, v3, v4, v5, v6, v7, v8, v9, v10, v11, v12, v13, v14, v15, hW⟩ := qlen16 hq
                subst hW
                have g15 : v15.isSome = true := hV 15 (by decide)
                obtain ⟨u15, rfl⟩ := Option.isSome_iff_exists.1 g15
                obtain ⟨x9, hm⟩ := hX.d _ rfl
                have HM := Lib.hid hm
                clear hl hV hq g15 hX hm HG HQ0 HNX
                simp only [putAll, known, List.map_cons, List.map_nil, Act.put, List.setIfInBounds_toArray, List.set_cons_zero, List.set_cons_succ, Option.getD_some]
                go_wp2
                go_roundw
                case rel => exact ⟨c + 1, _, _, by omega, by go_num, HM, Lib.hid (by rw [List.length_append, HN.out]; rfl)⟩
                case measure => simp [intOf]; omega
        case neg =>
          obtain rfl : C = c := by omega
          have iC : ¬ (C : Int) < (C : Int) := by omega
          clear hlc
          go_wp2
          go_roundw
          case rel => exact ⟨r + 1, v, rows, by omega, by go_num, HG, Lib.hid (by rw [Nat.add_mul, Nat.one_mul]; exact HN.out)⟩
          case measure => simp [intOf]; omega
    case neg =>
      obtain rfl : R = r := by omega
      clear hr
      have hRn : rows.length ≤ 1000 := by have := HN.out; omega
      obtain ⟨A9, d9, rfl, _⟩ := own_form HG.out.ho.own (by omega)
      obtain ⟨k0, k1, k2, kl⟩ := HG.out.blk.c3
      have HB1 := Lib.hid (HB0.out.ext HG.out.ext)
      obtain ⟨r0, r1, r2, rl⟩ := HB1.out.c3
      have F := HB1.out.frozen
      have iR : ¬ (R : Int) < (R : Int) := by omega
      have HM := Lib.hid HG.out
      clear hlt HG
      go_wp2
      have HV := Lib.hid (HX0.out.trans HM.out.ext)
      have h9 := (HM.out.ho.mono (base' := qb + 1) (by have := HPB.out; omega)).far3 (Nat.lt_succ_self _) (by decide) HB1.out
      refine bodyPost_ret (v := .agg #[.int .i64 (C : Int), .int .i64 (R : Int), .slice A9 rows.length d9]) (by simp [results, Try.results76, go_sem, r0, r1, r2]) rfl ⟨A9, d9, rows, rfl, HN.out, (h9 _ _ _).mono (by have := HQB.out; omega), setCell3 HV.out HQB.out _ _ _⟩
end Go.Proofs.Ytniiahddpdiocaa
