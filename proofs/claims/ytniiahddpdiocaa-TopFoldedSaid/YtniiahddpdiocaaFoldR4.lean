/-
  Walks of the reference: over, round.
-/
import Derived.Test.YtniiahddpdiocaaFoldR3
namespace Go.Proofs.Ytniiahddpdiocaa
open Go.RowKit
attribute [local go_sem ↓] Go.wp_at_zero Go.wp_at_succ
attribute [local go_sem] stateAt vu known List.map_cons List.map_nil Option.getD_some

/-- A heap whose places are turned one by one. -/
structure Sv (w0 wr : World) (mb b0 C R B : Nat) (A : Option Addr) (n d : Nat) (rows : List SLf) : Prop where
  ext : Ext w0 wr
  blk : Blk wr mb 94 #[.int .i64 (C : Int), .int .i64 (R : Int), .slice A n d]
  ho : HO wr b0 B (.slice A n d) rows
  ln : rows.length = n
  hb : w0.heap.size ≤ b0
section
variable {w0 wr w' : World} {mb b0 C R B n d g i : Nat} {A : Option Addr} {rows : List SLf}
theorem Sv.next (h : Sv w0 wr mb b0 C R B A n d rows) (hx : Ext wr w') : Sv w0 w' mb b0 C R B A n d rows := ⟨h.ext.trans hx, h.blk.ext hx, h.ho.ext hx, h.ln, h.hb⟩
theorem Sv.cell' (h : Sv w0 wr mb b0 C R B (some ⟨g, 0, none⟩) n d rows) (hi : i < n) : wr.cell? ⟨g, i, none⟩ = some (rows.getD i SLf.none_).val := by
  have ho := h.ho.own
  rw [h.ln] at ho
  rw [World.ownsRow.cellAt ho i (by omega), List.getElem?_map, List.getD_eq_getElem?_getD, List.getElem?_eq_getElem (by rw [h.ln]; exact hi)]; rfl
theorem Sv.fr' (h : Sv w0 wr mb b0 C R B (some ⟨g, 0, none⟩) n d rows) (i : Nat) : wr.frozen? ⟨g, i, none⟩ = false := by
  have ho := h.ho.own
  rw [h.ln] at ho
  exact World.ownsRow.frozenAt ho i
theorem Sv.lt' (h : Sv w0 wr mb b0 C R B (some ⟨g, 0, none⟩) n d rows) : g < wr.heap.size := (h.ho.own.lt g rfl).2
theorem Sv.mem' (h : Sv w0 wr mb b0 C R B A n d rows) (hi : i < n) : OLf wr 0 (rows.getD i SLf.none_).val (rows.getD i SLf.none_).l ∧ (rows.getD i SLf.none_).l.length ≤ B := by
  have e : rows.getD i SLf.none_ = rows[i]'(by rw [h.ln]; exact hi) := by rw [List.getD_eq_getElem?_getD, List.getElem?_eq_getElem (by rw [h.ln]; exact hi)]; rfl
  rw [e]
  exact h.ho.mem _ (List.getElem_mem _)
theorem Sv.set_ {s : SLf} (h : Sv w0 wr mb b0 C R B (some ⟨g, 0, none⟩) n d rows) (hs : OLf wr 0 s.val s.l) (hl : s.l.length ≤ B) (i : Nat) : Sv w0 (wr.setCell ⟨g, i, none⟩ s.val) mb b0 C R B (some ⟨g, 0, none⟩) n d (rows.set i s) := by
  have ho := h.ho.own
  rw [h.ln] at ho
  have hst := (World.ownsRow.stored ho i s.val).1
  obtain ⟨cur, hbk⟩ := own_is ho (g := g) rfl
  have hge := (ho.lt g rfl).1
  have hne : mb ≠ g := fun e => by
    subst e
    have hb := h.blk
    unfold Blk at hb hbk
    rw [hb] at hbk
    injection hbk with hbk
    injection hbk with _ hbk _
    exact absurd hbk (by decide)
  refine ⟨h.ext.setCell (Nat.le_trans h.hb hge) _, h.blk.far (p := ⟨g, i, none⟩) hne _, ⟨?_, fun x hx => ?_⟩, by rw [List.length_set]; exact h.ln, h.hb⟩
  · rw [List.length_set, List.map_set, h.ln]; exact hst
  · rcases List.mem_or_eq_of_mem_set hx with h1 | h1
    · exact ⟨(h.ho.mem x h1).1.keep (grown_set wr g i s.val) hbk (by decide), (h.ho.mem x h1).2⟩
    · subst h1
      exact ⟨hs.keep (grown_set wr g i x.val) hbk (by decide), hl⟩
end
theorem qlen11 {α : Type} {V : List α} (h : V.length = 11) : ∃ a0 a1 a2 a3 a4 a5 a6 a7 a8 a9 a10, V = [a0, a1, a2, a3, a4, a5, a6, a7, a8, a9, a10] := by
  match V, h with
  | [a0, a1, a2, a3, a4, a5, a6, a7, a8, a9, a10], _ => exact ⟨a0, a1, a2, a3, a4, a5, a6, a7, a8, a9, a10, rfl⟩
theorem qlen12b {α : Type} {V : List α} (h : V.length = 12) : ∃ a0 a1 a2 a3 a4 a5 a6 a7 a8 a9 a10 a11, V = [a0, a1, a2, a3, a4, a5, a6, a7, a8, a9, a10, a11] := by
  match V, h with
  | [a0, a1, a2, a3, a4, a5, a6, a7, a8, a9, a10, a11], _ => exact ⟨a0, a1, a2, a3, a4, a5, a6, a7, a8, a9, a10, a11, rfl⟩
/-- What is known in the region that turns a place. -/
structure QO (w0 : World) (mb b0 C R B : Nat) (A : Option Addr) (n d : Nat) (rows : List SLf) (i : Nat) (cs : List Nat) (last : Nat) (kv : List Value) (V : Vs) (W : World) : Prop where
  len : V.length = last + 1
  kn : ∀ j x, j ∉ cs → j ≠ last → V.getD j none = some x → x = kv.getD j undef
  a : V.getD last none = none → Sv w0 W mb b0 C R B A n d rows
  pc : ∀ j, j ∈ cs → ∀ x, V.getD j none = some x → V.getD last none = none → ∃ s : SLf, x = s.val ∧ s.l.length ≤ B ∧ OLf W 0 s.val s.l
  d : ∀ y, V.getD last none = some y → ∃ s : SLf, Sv w0 W mb b0 C R B A n d (rows.set i s)
section
variable {w0 W W' : World} {mb b0 C R B n d i g last : Nat} {A : Option Addr} {rows : List SLf} {cs : List Nat} {kv : List Value} {V : Vs}
theorem QO.start (h : Sv w0 W mb b0 C R B A n d rows) : QO w0 mb b0 C R B A n d rows i cs last kv (List.replicate (last + 1) none) W :=
  ⟨by simp, fun j x _ _ e => (by rw [rep_none] at e; cases e), fun _ => h, fun j _ x e => (by rw [rep_none] at e; cases e), fun y e => (by rw [rep_none] at e; cases e)⟩
theorem QO.known (h : QO w0 mb b0 C R B A n d rows i cs last kv V W) (j : Nat) (hj : j ∉ cs) (hj2 : j ≠ last) (hj3 : j < last) : QO w0 mb b0 C R B A n d rows i cs last kv (V.set j (some (kv.getD j undef))) W := by
  refine ⟨by rw [List.length_set]; exact h.len, fun k x hk hk2 e => ?_, fun e => ?_, fun k hk x e e2 => ?_, fun y e => ?_⟩
  · by_cases hkj : k = j
    · subst hkj
      rw [getD_set_eq (by rw [h.len]; omega)] at e
      cases e; rfl
    · rw [getD_set_ne hkj] at e; exact h.kn k x hk hk2 e
  · rw [getD_set_ne (fun e => hj2 e.symm)] at e; exact h.a e
  · rw [getD_set_ne (fun e => hj2 e.symm)] at e2
    have hkj : k ≠ j := fun e => hj (e ▸ hk)
    rw [getD_set_ne hkj] at e
    exact h.pc k hk x e e2
  · rw [getD_set_ne (fun e => hj2 e.symm)] at e; exact h.d y e
theorem QO.call (h : QO w0 mb b0 C R B A n d rows i cs last kv V W) (j : Nat) (hj : j ∈ cs) (hj3 : j < last) (hl : V.getD last none = none) (hx : Ext W W') (s : SLf) (hsl : s.l.length ≤ B) (hs : OLf W' 0 s.val s.l) : QO w0 mb b0 C R B A n d rows i cs last kv (V.set j (some s.val)) W' := by
  have hj2 : last ≠ j := by omega
  refine ⟨by rw [List.length_set]; exact h.len, fun k x hk hk2 e => ?_, fun e => ?_, fun k hk x e e2 => ?_, fun y e => ?_⟩
  · have hkj : k ≠ j := fun e => hk (e ▸ hj)
    rw [getD_set_ne hkj] at e; exact h.kn k x hk hk2 e
  · exact (h.a hl).next hx
  · by_cases hkj : k = j
    · subst hkj
      rw [getD_set_eq (by rw [h.len]; omega)] at e
      cases e; exact ⟨s, rfl, hsl, hs⟩
    · rw [getD_set_ne hkj] at e
      obtain ⟨s2, h1, h2, h3⟩ := h.pc k hk x e hl
      exact ⟨s2, h1, h2, h3.ext hx⟩
  · rw [getD_set_ne hj2, hl] at e; cases e
theorem QO.store (h : QO w0 mb b0 C R B (some ⟨g, 0, none⟩) n d rows i cs last kv V W) (s : SLf) (hl : V.getD last none = none) (hsl : s.l.length ≤ B) (hs : OLf W 0 s.val s.l) (y : Value) : QO w0 mb b0 C R B (some ⟨g, 0, none⟩) n d rows i cs last kv (V.set last (some y)) (W.setCell ⟨g, i, none⟩ s.val) := by
  have hp := (h.a hl).set_ hs hsl i
  have hlt : last < V.length := by rw [h.len]; omega
  refine ⟨by rw [List.length_set]; exact h.len, fun k x hk hk2 e => ?_, fun e => ?_, fun k hk x e e2 => ?_, fun y e => ?_⟩
  · rw [getD_set_ne hk2] at e; exact h.kn k x hk hk2 e
  · rw [getD_set_eq hlt] at e; cases e
  · rw [getD_set_eq hlt] at e2; cases e2
  · exact ⟨s, hp⟩
end
set_option maxRecDepth 100000 in
set_option maxHeartbeats 8000000 in
theorem rOver_any (C R B : Nat) (A : Option Addr) (hd : Nat) (rs : List SLf) (w : World) (hC : C ≤ 8) (hR : R ≤ 8) (hB : B ≤ 50000) (h : HO w 0 B (.slice A rs.length hd) rs) (hl : rs.length = R * C) :
    Calls Try.prog 78 #[HV C R A rs.length hd] w (RetH C R B w) := by
  have hRC : R * C ≤ 64 := Nat.mul_le_mul hR hC
  have HBB := Lib.hid hB
  have HB0 := Lib.hid (Blk.new1 w (.cells #[.int .i64 (C : Int), .int .i64 (R : Int), .slice A rs.length hd] 94) 94 #[.int .i64 0, .int .i64 0, .slice none 0 0])
  have HX0 : Hid (Ext w ((w.alloc (.cells #[.int .i64 (C : Int), .int .i64 (R : Int), .slice A rs.length hd] 94)).alloc (.cells #[.int .i64 0, .int .i64 0, .slice none 0 0] 94))) := Lib.hid (by repeat (first | exact Ext.refl _ | assumption | refine Ext.alloc ?_ _ | refine Ext.drew ?_ | refine Ext.drewN ?_ _ | (refine Ext.setCell ?_ (by simp <;> omega) _) | refine Ext.trans ?_ (by assumption)))
  have HZ0 : Hid (((w.alloc (.cells #[.int .i64 (C : Int), .int .i64 (R : Int), .slice A rs.length hd] 94)).alloc (.cells #[.int .i64 0, .int .i64 0, .slice none 0 0] 94)).heap.size = w.heap.size + 1 + 1) := Lib.hid (by simp)
  have CM := Lib.hid (mirrored_any C R B A hd rs true false _ hC hR hB (h.ext HX0.out) hl)
  unfold HV at CM
  unfold HV
  clear h hl
  go_enter Try.func78, Try.ntmps78
  go_wp2_with (first | (go_at_call 76; refine Calls.mono CM.out ?_; rintro e w1 ⟨B9, d, rows, rfl, hln, ho, hx⟩; have HO1 := Lib.hid ho; have HX1 := Lib.hid hx; have HLN0 := Lib.hid hln; clear ho hx hln))
  generalize ((w.alloc (.cells #[.int .i64 (C : Int), .int .i64 (R : Int), .slice A rs.length hd] 94)).alloc (.cells #[.int .i64 0, .int .i64 0, .slice none 0 0] 94)) = w0 at *
  obtain ⟨n, hn⟩ : ∃ n, rows.length = n := ⟨_, rfl⟩
  have HNE := Lib.hid hn
  have hn64 : n ≤ 64 := by have := HLN0.out; omega
  have hnb : n ≤ 9223372036854775807 := by omega
  rw [hn] at HO1 ⊢
  have HG0 : Hid (Sv w0 (w1.alloc (.cells #[.int .i64 (C : Int), .int .i64 (R : Int), .slice B9 n d] 94)) w1.heap.size w0.heap.size C R B B9 n d rows) := Lib.hid
    ⟨HX1.out.alloc _, Blk.new _ _ _, HO1.out.ext ((Ext.refl w1).alloc _), hn, Nat.le_refl _⟩
  clear HO1 hn
  generalize (w1.alloc (.cells #[.int .i64 (C : Int), .int .i64 (R : Int), .slice B9 n d] 94)) = w2 at *
  generalize w1.heap.size = mb at *
  have HQB : Hid (w.heap.size ≤ w.heap.size + 1) := Lib.hid (Nat.le_succ _)
  have HQ2 : Hid (w.heap.size + 1 < w0.heap.size) := Lib.hid (by have := HZ0.out; omega)
  generalize w.heap.size + 1 = qb at *
  go_loopw [4] (fun v4 wr => ∃ (i : Nat) (rows : List SLf), i ≤ n ∧ v4 = .int .i64 (i : Int) ∧ Hid (Sv w0 wr mb w0.heap.size C R B B9 n d rows)) (fun v4 _ => n - (intOf v4).toNat)
  case atStart => exact ⟨0, rows, Nat.zero_le _, rfl, HG0⟩
  case round =>
    clear HG0
    obtain ⟨i, rows, hi, rfl, HG⟩ := hrel
    obtain ⟨k0, k1, k2, kl⟩ := HG.out.blk.c3
    by_cases hlt : i < n
    case pos =>
      have ii : (i : Int) < (n : Int) := by omega
      obtain ⟨g, c9, hv9, _, _⟩ := HG.out.ho.own.form (by have := HG.out.ln; omega)
      obtain ⟨rfl, hv8, rfl⟩ := Value.slice.inj hv9
      clear hv9 hv8
      have HRI := Lib.hid hlt
      have HLN := Lib.hid HG.out.ln
      go_wp2_with fail
      obtain ⟨s, hs⟩ : ∃ s, rows.getD i SLf.none_ = s := ⟨_, rfl⟩
      have HSL : Hid (s.l.length ≤ B) := Lib.hid (by rw [← hs]; exact (HG.out.mem' hlt).2)
      obtain ⟨sA, sc, sl⟩ := s
      simp only at HSL
      have HQ0 : Hid (QO w0 mb w0.heap.size C R B (some ⟨g, 0, none⟩) n d rows i [8] 10 [.pointer (some ⟨mb, 2, none⟩), .slice (some ⟨g, 0, none⟩) n d, .int .i64 (i : Int), .pointer (some ⟨mb, 2, none⟩), .slice (some ⟨g, 0, none⟩) n d, .int .i64 (i : Int), .pointer (some ⟨g, i, none⟩), .slice sA sl.length sc, undef, .pointer (some ⟨g, i, none⟩), undef] (List.replicate 11 none) wr.drew) := Lib.hid (QO.start (HG.out.next ((Ext.refl wr).drew)))
      have HSE := Lib.hid hs
      clear hs k0 k1 k2 kl
      refine wp_region_q (QO w0 mb w0.heap.size C R B (some ⟨g, 0, none⟩) n d rows i [8] 10 _) (by kernel_rfl) (by kernel_rfl) HQ0.out ⟨?_, ?_, ?_, ?_, ?_, ?_, ?_, ?_, ?_, ?_, ?_, trivial⟩ ?_
      · intro V W hl hn hd hX hC; have hq : V.length = 11 := hl; obtain ⟨v0, v1, v2, v3, v4, v5, v6, v7, v8, v9, v10, hV⟩ := qlen11 hq; subst hV; obtain rfl : v0 = none := hn
        clear hl hd hC hq
        refine StepZ.go rfl ?_
        go_simp
        exact hX.known 0 (by decide) (by decide) (by decide)
      · intro V W hl hn hd hX hC; have hq : V.length = 11 := hl; obtain ⟨v0, v1, v2, v3, v4, v5, v6, v7, v8, v9, v10, hV⟩ := qlen11 hq; subst hV; obtain rfl : v1 = none := hn
        have hl9 : v10 = none := none_of (fun e => (hC 9 _ rfl (hC 10 _ rfl e 9 (by decide)) 1 (by decide))) rfl; subst hl9
        obtain ⟨k0, k1, k2, kl⟩ := (hX.a rfl).blk.c3
        have g0 : v0.isSome = true := hd 0 (by decide); obtain ⟨u0, rfl⟩ := Option.isSome_iff_exists.1 g0; clear g0; obtain rfl := hX.kn 0 _ (by decide) (by decide) rfl
        clear hl hd hC hq
        refine StepZ.go rfl ?_
        go_simp
        exact hX.known 1 (by decide) (by decide) (by decide)
      · intro V W hl hn hd hX hC; have hq : V.length = 11 := hl; obtain ⟨v0, v1, v2, v3, v4, v5, v6, v7, v8, v9, v10, hV⟩ := qlen11 hq; subst hV; obtain rfl : v2 = none := hn
        clear hl hd hC hq
        refine StepZ.go rfl ?_
        go_simp
        exact hX.known 2 (by decide) (by decide) (by decide)
      · intro V W hl hn hd hX hC; have hq : V.length = 11 := hl; obtain ⟨v0, v1, v2, v3, v4, v5, v6, v7, v8, v9, v10, hV⟩ := qlen11 hq; subst hV; obtain rfl : v3 = none := hn
        clear hl hd hC hq
        refine StepZ.go rfl ?_
        go_simp
        exact hX.known 3 (by decide) (by decide) (by decide)
      · intro V W hl hn hd hX hC; have hq : V.length = 11 := hl; obtain ⟨v0, v1, v2, v3, v4, v5, v6, v7, v8, v9, v10, hV⟩ := qlen11 hq; subst hV; obtain rfl : v4 = none := hn
        have hl9 : v10 = none := none_of (fun e => (hC 6 _ rfl (hC 7 _ rfl (hC 8 _ rfl (hC 10 _ rfl e 8 (by decide)) 7 (by decide)) 6 (by decide)) 4 (by decide))) rfl; subst hl9
        obtain ⟨k0, k1, k2, kl⟩ := (hX.a rfl).blk.c3
        have g3 : v3.isSome = true := hd 3 (by decide); obtain ⟨u3, rfl⟩ := Option.isSome_iff_exists.1 g3; clear g3; obtain rfl := hX.kn 3 _ (by decide) (by decide) rfl
        clear hl hd hC hq
        refine StepZ.go rfl ?_
        go_simp
        exact hX.known 4 (by decide) (by decide) (by decide)
      · intro V W hl hn hd hX hC; have hq : V.length = 11 := hl; obtain ⟨v0, v1, v2, v3, v4, v5, v6, v7, v8, v9, v10, hV⟩ := qlen11 hq; subst hV; obtain rfl : v5 = none := hn
        clear hl hd hC hq
        refine StepZ.go rfl ?_
        go_simp
        exact hX.known 5 (by decide) (by decide) (by decide)
      · intro V W hl hn hd hX hC; have hq : V.length = 11 := hl; obtain ⟨v0, v1, v2, v3, v4, v5, v6, v7, v8, v9, v10, hV⟩ := qlen11 hq; subst hV; obtain rfl : v6 = none := hn
        have g4 : v4.isSome = true := hd 4 (by decide); obtain ⟨u4, rfl⟩ := Option.isSome_iff_exists.1 g4; clear g4; obtain rfl := hX.kn 4 _ (by decide) (by decide) rfl
        have g5 : v5.isSome = true := hd 5 (by decide); obtain ⟨u5, rfl⟩ := Option.isSome_iff_exists.1 g5; clear g5; obtain rfl := hX.kn 5 _ (by decide) (by decide) rfl
        clear hl hd hC hq
        refine StepZ.go rfl ?_
        go_simp
        exact hX.known 6 (by decide) (by decide) (by decide)
      · intro V W hl hn hd hX hC; have hq : V.length = 11 := hl; obtain ⟨v0, v1, v2, v3, v4, v5, v6, v7, v8, v9, v10, hV⟩ := qlen11 hq; subst hV; obtain rfl : v7 = none := hn
        have hl9 : v10 = none := none_of (fun e => (hC 8 _ rfl (hC 10 _ rfl e 8 (by decide)) 7 (by decide))) rfl; subst hl9
        have c9 := (hX.a rfl).cell' HRI.out
        rw [HSE.out] at c9
        simp only [SLf.val] at c9
        have gl := (hX.a rfl).lt'
        have g6 : v6.isSome = true := hd 6 (by decide); obtain ⟨u6, rfl⟩ := Option.isSome_iff_exists.1 g6; clear g6; obtain rfl := hX.kn 6 _ (by decide) (by decide) rfl
        clear hl hd hC hq
        refine StepZ.go rfl ?_
        go_simp
        exact hX.known 7 (by decide) (by decide) (by decide)
      · intro V W hl hn hd hX hC; have hq : V.length = 11 := hl; obtain ⟨v0, v1, v2, v3, v4, v5, v6, v7, v8, v9, v10, hV⟩ := qlen11 hq; subst hV; obtain rfl : v8 = none := hn
        have hl9 : v10 = none := none_of (fun e => (hC 10 _ rfl e 8 (by decide))) rfl; subst hl9
        have g7 : v7.isSome = true := hd 7 (by decide); obtain ⟨u7, rfl⟩ := Option.isSome_iff_exists.1 g7; clear g7; obtain rfl := hX.kn 7 _ (by decide) (by decide) rfl
        have hm9 := (hX.a rfl).mem' HRI.out
        rw [HSE.out] at hm9
        clear hl hd hC hq
        refine StepZ.go rfl ?_
        go_simp
        refine Calls.mono (rTurned_any sA sc sl 1 0 W (OLf.toR (s := ⟨sA, sc, sl⟩) hm9.1 (by have := HSL.out; have := HBB.out; show sl.length ≤ 1000000; omega)) (by have := HSL.out; have := HBB.out; omega)) ?_
        rintro e w' ⟨v9, l9, rfl, ho, hln, hx⟩
        obtain ⟨A9, c9, rfl, _⟩ := OLf.form ho (by have := HSL.out; have := HBB.out; omega)
        exact ⟨_, rfl, hX.call 8 (by decide) (by decide) rfl hx ⟨A9, c9, l9⟩ (by show l9.length ≤ B; rw [hln]; exact HSL.out) (ho.mono (Nat.zero_le _))⟩
      · intro V W hl hn hd hX hC; have hq : V.length = 11 := hl; obtain ⟨v0, v1, v2, v3, v4, v5, v6, v7, v8, v9, v10, hV⟩ := qlen11 hq; subst hV; obtain rfl : v9 = none := hn
        have g1 : v1.isSome = true := hd 1 (by decide); obtain ⟨u1, rfl⟩ := Option.isSome_iff_exists.1 g1; clear g1; obtain rfl := hX.kn 1 _ (by decide) (by decide) rfl
        have g2 : v2.isSome = true := hd 2 (by decide); obtain ⟨u2, rfl⟩ := Option.isSome_iff_exists.1 g2; clear g2; obtain rfl := hX.kn 2 _ (by decide) (by decide) rfl
        clear hl hd hC hq
        refine StepZ.go rfl ?_
        go_simp
        exact hX.known 9 (by decide) (by decide) (by decide)
      · intro V W hl hn hd hX hC; have hq : V.length = 11 := hl; obtain ⟨v0, v1, v2, v3, v4, v5, v6, v7, v8, v9, v10, hV⟩ := qlen11 hq; subst hV; obtain rfl : v10 = none := hn
        have g9 : v9.isSome = true := hd 9 (by decide); obtain ⟨u9, rfl⟩ := Option.isSome_iff_exists.1 g9; clear g9; obtain rfl := hX.kn 9 _ (by decide) (by decide) rfl
        have g8 : v8.isSome = true := hd 8 (by decide)
        obtain ⟨u8, rfl⟩ := Option.isSome_iff_exists.1 g8
        obtain ⟨⟨pA, pc, pl⟩, hp1, hp2, hp3⟩ := hX.pc 8 (by decide) _ rfl rfl
        have hst := hX.store (i := i) (g := g) ⟨pA, pc, pl⟩ rfl hp2 hp3
        simp only [SLf.val] at hp1 hst
        subst hp1
        have c9 := (hX.a rfl).cell' HRI.out
        have gl := (hX.a rfl).lt'
        have F := (hX.a rfl).fr' i
        clear hl hd hC hq hp2 hp3
        refine StepZ.go rfl ?_
        go_simp
        exact ⟨rfl, hst undef⟩
      · intro V W hl hV hX
        have hq : V.length = 11 := hl
        obtain ⟨v0, v1, v2, v3, v4, v5, v6, v7, v8, v9, v10, hW⟩ := qlen11 hq
        subst hW
        have g9 : v10.isSome = true := hV 10 (by decide)
        obtain ⟨u9, rfl⟩ := Option.isSome_iff_exists.1 g9
        obtain ⟨s9, hs9⟩ := hX.d _ rfl
        have HM := Lib.hid hs9
        clear hl hV hq g9 hX hs9 HG HQ0
        simp only [putAll, known, List.map_cons, List.map_nil, Act.put, List.setIfInBounds_toArray, List.set_cons_zero, List.set_cons_succ, Option.getD_some]
        go_wp2
        go_roundw
        case rel => exact ⟨i + 1, _, by omega, by go_num, HM⟩
        case measure => simp [intOf]; omega
    case neg =>
      obtain rfl : n = i := by omega
      clear hi
      have HB1 := Lib.hid (HB0.out.ext HG.out.ext)
      obtain ⟨r0, r1, r2, rl⟩ := HB1.out.c3
      have F := HB1.out.frozen
      have iR : ¬ (n : Int) < (n : Int) := by omega
      have HLN := Lib.hid HG.out.ln
      have HM := Lib.hid HG.out
      clear hlt HG
      go_wp2
      have HV := Lib.hid (HX0.out.trans HM.out.ext)
      have h9 := HM.out.ho.far3 HQ2.out (by decide) HB1.out
      have hfin : rows.length = R * C := by
        have h1 := HLN.out
        have h2 := HNE.out
        have h3 := HLN0.out
        omega
      refine bodyPost_ret (v := .agg #[.int .i64 (C : Int), .int .i64 (R : Int), .slice B9 n d]) (by simp [results, Try.results78, go_sem, r0, r1, r2]) rfl ⟨B9, d, rows, by rw [HLN.out], hfin, by rw [HLN.out]; exact (h9 _ _ _).mono (by have := HQ2.out; have := HQB.out; omega), setCell3 HV.out HQB.out _ _ _⟩
set_option maxRecDepth 100000 in
set_option maxHeartbeats 8000000 in
theorem rRound_any (C R B : Nat) (A : Option Addr) (hd : Nat) (rs : List SLf) (w : World) (hC : C ≤ 8) (hR : R ≤ 8) (hB : B ≤ 50000) (h : HO w 0 B (.slice A rs.length hd) rs) (hl : rs.length = R * C) :
    Calls Try.prog 79 #[HV C R A rs.length hd] w (RetH C R B w) := by
  have hRC : R * C ≤ 64 := Nat.mul_le_mul hR hC
  have HBB := Lib.hid hB
  have HB0 := Lib.hid (Blk.new1 w (.cells #[.int .i64 (C : Int), .int .i64 (R : Int), .slice A rs.length hd] 94) 94 #[.int .i64 0, .int .i64 0, .slice none 0 0])
  have HX0 : Hid (Ext w ((w.alloc (.cells #[.int .i64 (C : Int), .int .i64 (R : Int), .slice A rs.length hd] 94)).alloc (.cells #[.int .i64 0, .int .i64 0, .slice none 0 0] 94))) := Lib.hid (by repeat (first | exact Ext.refl _ | assumption | refine Ext.alloc ?_ _ | refine Ext.drew ?_ | refine Ext.drewN ?_ _ | (refine Ext.setCell ?_ (by simp <;> omega) _) | refine Ext.trans ?_ (by assumption)))
  have HZ0 : Hid (((w.alloc (.cells #[.int .i64 (C : Int), .int .i64 (R : Int), .slice A rs.length hd] 94)).alloc (.cells #[.int .i64 0, .int .i64 0, .slice none 0 0] 94)).heap.size = w.heap.size + 1 + 1) := Lib.hid (by simp)
  have CM := Lib.hid (mirrored_any C R B A hd rs true true _ hC hR hB (h.ext HX0.out) hl)
  unfold HV at CM
  unfold HV
  clear h hl
  go_enter Try.func79, Try.ntmps79
  go_wp2_with (first | (go_at_call 76; refine Calls.mono CM.out ?_; rintro e w1 ⟨B9, d, rows, rfl, hln, ho, hx⟩; have HO1 := Lib.hid ho; have HX1 := Lib.hid hx; have HLN0 := Lib.hid hln; clear ho hx hln))
  generalize ((w.alloc (.cells #[.int .i64 (C : Int), .int .i64 (R : Int), .slice A rs.length hd] 94)).alloc (.cells #[.int .i64 0, .int .i64 0, .slice none 0 0] 94)) = w0 at *
  obtain ⟨n, hn⟩ : ∃ n, rows.length = n := ⟨_, rfl⟩
  have HNE := Lib.hid hn
  have hn64 : n ≤ 64 := by have := HLN0.out; omega
  have hnb : n ≤ 9223372036854775807 := by omega
  rw [hn] at HO1 ⊢
  have HG0 : Hid (Sv w0 (w1.alloc (.cells #[.int .i64 (C : Int), .int .i64 (R : Int), .slice B9 n d] 94)) w1.heap.size w0.heap.size C R B B9 n d rows) := Lib.hid
    ⟨HX1.out.alloc _, Blk.new _ _ _, HO1.out.ext ((Ext.refl w1).alloc _), hn, Nat.le_refl _⟩
  clear HO1 hn
  generalize (w1.alloc (.cells #[.int .i64 (C : Int), .int .i64 (R : Int), .slice B9 n d] 94)) = w2 at *
  generalize w1.heap.size = mb at *
  have HQB : Hid (w.heap.size ≤ w.heap.size + 1) := Lib.hid (Nat.le_succ _)
  have HQ2 : Hid (w.heap.size + 1 < w0.heap.size) := Lib.hid (by have := HZ0.out; omega)
  generalize w.heap.size + 1 = qb at *
  go_loopw [4] (fun v4 wr => ∃ (i : Nat) (rows : List SLf), i ≤ n ∧ v4 = .int .i64 (i : Int) ∧ Hid (Sv w0 wr mb w0.heap.size C R B B9 n d rows)) (fun v4 _ => n - (intOf v4).toNat)
  case atStart => exact ⟨0, rows, Nat.zero_le _, rfl, HG0⟩
  case round =>
    clear HG0
    obtain ⟨i, rows, hi, rfl, HG⟩ := hrel
    obtain ⟨k0, k1, k2, kl⟩ := HG.out.blk.c3
    by_cases hlt : i < n
    case pos =>
      have ii : (i : Int) < (n : Int) := by omega
      obtain ⟨g, c9, hv9, _, _⟩ := HG.out.ho.own.form (by have := HG.out.ln; omega)
      obtain ⟨rfl, hv8, rfl⟩ := Value.slice.inj hv9
      clear hv9 hv8
      have HRI := Lib.hid hlt
      have HLN := Lib.hid HG.out.ln
      go_wp2_with fail
      obtain ⟨s, hs⟩ : ∃ s, rows.getD i SLf.none_ = s := ⟨_, rfl⟩
      have HSL : Hid (s.l.length ≤ B) := Lib.hid (by rw [← hs]; exact (HG.out.mem' hlt).2)
      obtain ⟨sA, sc, sl⟩ := s
      simp only at HSL
      have HQ0 : Hid (QO w0 mb w0.heap.size C R B (some ⟨g, 0, none⟩) n d rows i [8, 9] 11 [.pointer (some ⟨mb, 2, none⟩), .slice (some ⟨g, 0, none⟩) n d, .int .i64 (i : Int), .pointer (some ⟨mb, 2, none⟩), .slice (some ⟨g, 0, none⟩) n d, .int .i64 (i : Int), .pointer (some ⟨g, i, none⟩), .slice sA sl.length sc, undef, undef, .pointer (some ⟨g, i, none⟩), undef] (List.replicate 12 none) wr.drew) := Lib.hid (QO.start (HG.out.next ((Ext.refl wr).drew)))
      have HSE := Lib.hid hs
      clear hs k0 k1 k2 kl
      refine wp_region_q (QO w0 mb w0.heap.size C R B (some ⟨g, 0, none⟩) n d rows i [8, 9] 11 _) (by kernel_rfl) (by kernel_rfl) HQ0.out ⟨?_, ?_, ?_, ?_, ?_, ?_, ?_, ?_, ?_, ?_, ?_, ?_, trivial⟩ ?_
      · intro V W hl hn hd hX hC; have hq : V.length = 12 := hl; obtain ⟨v0, v1, v2, v3, v4, v5, v6, v7, v8, v9, v10, v11, hV⟩ := qlen12b hq; subst hV; obtain rfl : v0 = none := hn
        clear hl hd hC hq
        refine StepZ.go rfl ?_
        go_simp
        exact hX.known 0 (by decide) (by decide) (by decide)
      · intro V W hl hn hd hX hC; have hq : V.length = 12 := hl; obtain ⟨v0, v1, v2, v3, v4, v5, v6, v7, v8, v9, v10, v11, hV⟩ := qlen12b hq; subst hV; obtain rfl : v1 = none := hn
        have hl9 : v11 = none := none_of (fun e => (hC 10 _ rfl (hC 11 _ rfl e 10 (by decide)) 1 (by decide))) rfl; subst hl9
        obtain ⟨k0, k1, k2, kl⟩ := (hX.a rfl).blk.c3
        have g0 : v0.isSome = true := hd 0 (by decide); obtain ⟨u0, rfl⟩ := Option.isSome_iff_exists.1 g0; clear g0; obtain rfl := hX.kn 0 _ (by decide) (by decide) rfl
        clear hl hd hC hq
        refine StepZ.go rfl ?_
        go_simp
        exact hX.known 1 (by decide) (by decide) (by decide)
      · intro V W hl hn hd hX hC; have hq : V.length = 12 := hl; obtain ⟨v0, v1, v2, v3, v4, v5, v6, v7, v8, v9, v10, v11, hV⟩ := qlen12b hq; subst hV; obtain rfl : v2 = none := hn
        clear hl hd hC hq
        refine StepZ.go rfl ?_
        go_simp
        exact hX.known 2 (by decide) (by decide) (by decide)
      · intro V W hl hn hd hX hC; have hq : V.length = 12 := hl; obtain ⟨v0, v1, v2, v3, v4, v5, v6, v7, v8, v9, v10, v11, hV⟩ := qlen12b hq; subst hV; obtain rfl : v3 = none := hn
        clear hl hd hC hq
        refine StepZ.go rfl ?_
        go_simp
        exact hX.known 3 (by decide) (by decide) (by decide)
      · intro V W hl hn hd hX hC; have hq : V.length = 12 := hl; obtain ⟨v0, v1, v2, v3, v4, v5, v6, v7, v8, v9, v10, v11, hV⟩ := qlen12b hq; subst hV; obtain rfl : v4 = none := hn
        have hl9 : v11 = none := none_of (fun e => (hC 6 _ rfl (hC 7 _ rfl (hC 8 _ rfl (hC 9 _ rfl (hC 11 _ rfl e 9 (by decide)) 8 (by decide)) 7 (by decide)) 6 (by decide)) 4 (by decide))) rfl; subst hl9
        obtain ⟨k0, k1, k2, kl⟩ := (hX.a rfl).blk.c3
        have g3 : v3.isSome = true := hd 3 (by decide); obtain ⟨u3, rfl⟩ := Option.isSome_iff_exists.1 g3; clear g3; obtain rfl := hX.kn 3 _ (by decide) (by decide) rfl
        clear hl hd hC hq
        refine StepZ.go rfl ?_
        go_simp
        exact hX.known 4 (by decide) (by decide) (by decide)
      · intro V W hl hn hd hX hC; have hq : V.length = 12 := hl; obtain ⟨v0, v1, v2, v3, v4, v5, v6, v7, v8, v9, v10, v11, hV⟩ := qlen12b hq; subst hV; obtain rfl : v5 = none := hn
        clear hl hd hC hq
        refine StepZ.go rfl ?_
        go_simp
        exact hX.known 5 (by decide) (by decide) (by decide)
      · intro V W hl hn hd hX hC; have hq : V.length = 12 := hl; obtain ⟨v0, v1, v2, v3, v4, v5, v6, v7, v8, v9, v10, v11, hV⟩ := qlen12b hq; subst hV; obtain rfl : v6 = none := hn
        have g4 : v4.isSome = true := hd 4 (by decide); obtain ⟨u4, rfl⟩ := Option.isSome_iff_exists.1 g4; clear g4; obtain rfl := hX.kn 4 _ (by decide) (by decide) rfl
        have g5 : v5.isSome = true := hd 5 (by decide); obtain ⟨u5, rfl⟩ := Option.isSome_iff_exists.1 g5; clear g5; obtain rfl := hX.kn 5 _ (by decide) (by decide) rfl
        clear hl hd hC hq
        refine StepZ.go rfl ?_
        go_simp
        exact hX.known 6 (by decide) (by decide) (by decide)
      · intro V W hl hn hd hX hC; have hq : V.length = 12 := hl; obtain ⟨v0, v1, v2, v3, v4, v5, v6, v7, v8, v9, v10, v11, hV⟩ := qlen12b hq; subst hV; obtain rfl : v7 = none := hn
        have hl9 : v11 = none := none_of (fun e => (hC 8 _ rfl (hC 9 _ rfl (hC 11 _ rfl e 9 (by decide)) 8 (by decide)) 7 (by decide))) rfl; subst hl9
        have c9 := (hX.a rfl).cell' HRI.out
        rw [HSE.out] at c9
        simp only [SLf.val] at c9
        have gl := (hX.a rfl).lt'
        have g6 : v6.isSome = true := hd 6 (by decide); obtain ⟨u6, rfl⟩ := Option.isSome_iff_exists.1 g6; clear g6; obtain rfl := hX.kn 6 _ (by decide) (by decide) rfl
        clear hl hd hC hq
        refine StepZ.go rfl ?_
        go_simp
        exact hX.known 7 (by decide) (by decide) (by decide)
      · intro V W hl hn hd hX hC; have hq : V.length = 12 := hl; obtain ⟨v0, v1, v2, v3, v4, v5, v6, v7, v8, v9, v10, v11, hV⟩ := qlen12b hq; subst hV; obtain rfl : v8 = none := hn
        have hl9 : v11 = none := none_of (fun e => (hC 9 _ rfl (hC 11 _ rfl e 9 (by decide)) 8 (by decide))) rfl; subst hl9
        have g7 : v7.isSome = true := hd 7 (by decide); obtain ⟨u7, rfl⟩ := Option.isSome_iff_exists.1 g7; clear g7; obtain rfl := hX.kn 7 _ (by decide) (by decide) rfl
        have hm9 := (hX.a rfl).mem' HRI.out
        rw [HSE.out] at hm9
        clear hl hd hC hq
        refine StepZ.go rfl ?_
        go_simp
        refine Calls.mono (rTurned_any sA sc sl 0 1 W (OLf.toR (s := ⟨sA, sc, sl⟩) hm9.1 (by have := HSL.out; have := HBB.out; show sl.length ≤ 1000000; omega)) (by have := HSL.out; have := HBB.out; omega)) ?_
        rintro e w' ⟨v9, l9, rfl, ho, hln, hx⟩
        obtain ⟨A9, c9, rfl, _⟩ := OLf.form ho (by have := HSL.out; have := HBB.out; omega)
        exact ⟨_, rfl, hX.call 8 (by decide) (by decide) rfl hx ⟨A9, c9, l9⟩ (by show l9.length ≤ B; rw [hln]; exact HSL.out) (ho.mono (Nat.zero_le _))⟩
      · intro V W hl hn hd hX hC; have hq : V.length = 12 := hl; obtain ⟨v0, v1, v2, v3, v4, v5, v6, v7, v8, v9, v10, v11, hV⟩ := qlen12b hq; subst hV; obtain rfl : v9 = none := hn
        have hl9 : v11 = none := none_of (fun e => (hC 11 _ rfl e 9 (by decide))) rfl; subst hl9
        have g8 : v8.isSome = true := hd 8 (by decide)
        obtain ⟨u8, rfl⟩ := Option.isSome_iff_exists.1 g8
        obtain ⟨⟨pA, pc, pl⟩, hp1, hp2, hp3⟩ := hX.pc 8 (by decide) _ rfl rfl
        simp only [SLf.val] at hp1 hp2 hp3
        subst hp1
        have HP2 := Lib.hid hp2
        clear hl hd hC hq hp2
        refine StepZ.go rfl ?_
        go_simp
        refine Calls.mono (rTurned_any pA pc pl 0 0 W (OLf.toR (s := ⟨pA, pc, pl⟩) hp3 (by have := HP2.out; have := HBB.out; show pl.length ≤ 1000000; omega)) (by have := HP2.out; have := HBB.out; omega)) ?_
        rintro e w' ⟨v9, l9, rfl, ho, hln, hx⟩
        obtain ⟨A9, c9, rfl, _⟩ := OLf.form ho (by have := HP2.out; have := HBB.out; omega)
        exact ⟨_, rfl, hX.call 9 (by decide) (by decide) rfl hx ⟨A9, c9, l9⟩ (by show l9.length ≤ B; rw [hln]; exact HP2.out) (ho.mono (Nat.zero_le _))⟩
      · intro V W hl hn hd hX hC; have hq : V.length = 12 := hl; obtain ⟨v0, v1, v2, v3, v4, v5, v6, v7, v8, v9, v10, v11, hV⟩ := qlen12b hq; subst hV; obtain rfl : v10 = none := hn
        have g1 : v1.isSome = true := hd 1 (by decide); obtain ⟨u1, rfl⟩ := Option.isSome_iff_exists.1 g1; clear g1; obtain rfl := hX.kn 1 _ (by decide) (by decide) rfl
        have g2 : v2.isSome = true := hd 2 (by decide); obtain ⟨u2, rfl⟩ := Option.isSome_iff_exists.1 g2; clear g2; obtain rfl := hX.kn 2 _ (by decide) (by decide) rfl
        clear hl hd hC hq
        refine StepZ.go rfl ?_
        go_simp
        exact hX.known 10 (by decide) (by decide) (by decide)
      · intro V W hl hn hd hX hC; have hq : V.length = 12 := hl; obtain ⟨v0, v1, v2, v3, v4, v5, v6, v7, v8, v9, v10, v11, hV⟩ := qlen12b hq; subst hV; obtain rfl : v11 = none := hn
        have g10 : v10.isSome = true := hd 10 (by decide); obtain ⟨u10, rfl⟩ := Option.isSome_iff_exists.1 g10; clear g10; obtain rfl := hX.kn 10 _ (by decide) (by decide) rfl
        have g9 : v9.isSome = true := hd 9 (by decide)
        obtain ⟨u9, rfl⟩ := Option.isSome_iff_exists.1 g9
        obtain ⟨⟨pA, pc, pl⟩, hp1, hp2, hp3⟩ := hX.pc 9 (by decide) _ rfl rfl
        have hst := hX.store (i := i) (g := g) ⟨pA, pc, pl⟩ rfl hp2 hp3
        simp only [SLf.val] at hp1 hst
        subst hp1
        have c9 := (hX.a rfl).cell' HRI.out
        have gl := (hX.a rfl).lt'
        have F := (hX.a rfl).fr' i
        clear hl hd hC hq hp2 hp3
        refine StepZ.go rfl ?_
        go_simp
        exact ⟨rfl, hst undef⟩
      · intro V W hl hV hX
        have hq : V.length = 12 := hl
        obtain ⟨v0, v1, v2, v3, v4, v5, v6, v7, v8, v9, v10, v11, hW⟩ := qlen12b hq
        subst hW
        have g9 : v11.isSome = true := hV 11 (by decide)
        obtain ⟨u9, rfl⟩ := Option.isSome_iff_exists.1 g9
        obtain ⟨s9, hs9⟩ := hX.d _ rfl
        have HM := Lib.hid hs9
        clear hl hV hq g9 hX hs9 HG HQ0
        simp only [putAll, known, List.map_cons, List.map_nil, Act.put, List.setIfInBounds_toArray, List.set_cons_zero, List.set_cons_succ, Option.getD_some]
        go_wp2
        go_roundw
        case rel => exact ⟨i + 1, _, by omega, by go_num, HM⟩
        case measure => simp [intOf]; omega
    case neg =>
      obtain rfl : n = i := by omega
      clear hi
      have HB1 := Lib.hid (HB0.out.ext HG.out.ext)
      obtain ⟨r0, r1, r2, rl⟩ := HB1.out.c3
      have F := HB1.out.frozen
      have iR : ¬ (n : Int) < (n : Int) := by omega
      have HLN := Lib.hid HG.out.ln
      have HM := Lib.hid HG.out
      clear hlt HG
      go_wp2
      have HV := Lib.hid (HX0.out.trans HM.out.ext)
      have h9 := HM.out.ho.far3 HQ2.out (by decide) HB1.out
      have hfin : rows.length = R * C := by
        have h1 := HLN.out
        have h2 := HNE.out
        have h3 := HLN0.out
        omega
      refine bodyPost_ret (v := .agg #[.int .i64 (C : Int), .int .i64 (R : Int), .slice B9 n d]) (by simp [results, Try.results79, go_sem, r0, r1, r2]) rfl ⟨B9, d, rows, by rw [HLN.out], hfin, by rw [HLN.out]; exact (h9 _ _ _).mono (by have := HQ2.out; have := HQB.out; omega), setCell3 HV.out HQB.out _ _ _⟩
end Go.Proofs.Ytniiahddpdiocaa
