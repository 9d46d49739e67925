/-
  Walk of the reference: Fold.
-/
import Derived.Test.YtniiahddpdiocaaFoldR5
namespace Go.Proofs.Ytniiahddpdiocaa
open Go.RowKit
attribute [local go_sem ↓] Go.wp_at_zero Go.wp_at_succ
attribute [local go_sem] stateAt vu known List.map_cons List.map_nil Option.getD_some

abbrev W3r (w : World) (C R : Nat) (A : Option Addr) (n d : Nat) (k m : Int) : World := ((w.alloc (.cells #[.int .i64 (C : Int), .int .i64 (R : Int), .slice A n d] 94)).alloc (.cells #[.int .i64 k, .int .i64 m] 82)).alloc (.cells #[.int .i64 0, .int .i64 0, .slice none 0 0] 94)
theorem W3r.facts (w : World) (C R : Nat) (A : Option Addr) (n d : Nat) (k m : Int) : Blk (W3r w C R A n d k m) (w.heap.size + 1 + 1) 94 #[.int .i64 0, .int .i64 0, .slice none 0 0] ∧ Ext w (W3r w C R A n d k m) ∧ (W3r w C R A n d k m).heap.size = w.heap.size + 1 + 1 + 1 ∧
    Blk (W3r w C R A n d k m) (w.heap.size + 1) 82 #[.int .i64 k, .int .i64 m] ∧ Blk (W3r w C R A n d k m) w.heap.size 94 #[.int .i64 (C : Int), .int .i64 (R : Int), .slice A n d] :=
  ⟨Blk.new2 _ _ _ _ _, (by repeat (first | exact Ext.refl _ | assumption | refine Ext.alloc ?_ _ | refine Ext.drew ?_ | refine Ext.drewN ?_ _ | (refine Ext.setCell ?_ (by simp <;> omega) _) | refine Ext.trans ?_ (by assumption))), by simp [W3r], (Blk.new1 _ _ _ _).alloc _, ((Blk.new _ _ _).alloc _).alloc _⟩
/-- The heaps on the way. -/
def PF (base C R C' R' B : Nat) : Nat → Value → World → Prop
  | 1, x, W => HvAt 0 C R B x W
  | 4, x, W => HvAt 0 C' R' (2 * B) x W
  | 5, x, W => HvAt base C' R' (2 * B) x W
  | _, _, _ => True
theorem PF.ext {base C R C' R' B k : Nat} {x : Value} {W W' : World} (h : PF base C R C' R' B k x W) (hx : Ext W W') : PF base C R C' R' B k x W' := by
  unfold PF at h ⊢
  split at h
  · exact HvAt.ext h hx
  · exact HvAt.ext h hx
  · exact HvAt.ext h hx
  · trivial
set_option maxRecDepth 100000 in
set_option maxHeartbeats 8000000 in
theorem rFold_any (C R B : Nat) (A : Option Addr) (hd : Nat) (rs : List SLf) (k n : Int) (w : World) (hC : C ≤ 8) (hR : R ≤ 8) (hB : B ≤ 20000) (h : HO w 0 B (.slice A rs.length hd) rs) (hl : rs.length = R * C) (hz : foldE C R k n = 0) :
    Calls Try.prog 59 #[HV C R A rs.length hd, .agg #[.int .i64 k, .int .i64 n]] w (RetH (foldC C k n) (foldR R k n) (2 * B) w) := by
  obtain ⟨f2, f3, f4, f5, f6⟩ := W3r.facts w C R A rs.length hd k n
  have HB := Lib.hid f2; have HX := Lib.hid f3; have HZ := Lib.hid f4; have HF := Lib.hid f5; have HH9 := Lib.hid f6
  have h3 := h.ext f3
  clear f2 f3 f4 f5 f6
  rcases foldE_zero hz with ⟨rfl, rfl⟩ | ⟨rfl, rfl⟩ | ⟨hk, hn1, hn2⟩
  · have CM := Lib.hid (rOver_any C R B A hd rs _ hC hR (by omega) h3 hl)
    show Calls _ _ _ _ (RetH C R (2 * B) w)
    clear hz hl
    unfold HV at CM
    unfold HV
    clear h h3
    go_enter Try.func59, Try.ntmps59
    go_wp2_with (first | (go_at_call 78; refine Calls.mono CM.out ?_; rintro e w1 ⟨B9, d9, rows9, rfl, hln, ho, hx⟩; have HOP := Lib.hid ho; have HX1 := Lib.hid hx; have HLN := Lib.hid hln; obtain ⟨r0, r1, r2, rl⟩ := (HB.out.ext HX1.out).c3; have F := (HB.out.ext HX1.out).frozen; clear ho hx hln))
    have h9 := (HOP.out.mono (base' := w.heap.size + 1 + 1 + 1) (by have := HZ.out; omega)).far3 (Nat.lt_succ_self _) (by decide) (HB.out.ext HX1.out)
    refine bodyPost_ret (v := .agg #[.int .i64 (C : Int), .int .i64 (R : Int), .slice B9 rows9.length d9]) (by simp [results, Try.results59, go_sem, r0, r1, r2]) rfl ⟨B9, d9, rows9, rfl, HLN.out, ((h9 _ _ _).mono (by omega)).more (by omega), setCell3 (HX.out.trans HX1.out) (by omega) _ _ _⟩
  · have CM := Lib.hid (rRound_any C R B A hd rs _ hC hR (by omega) h3 hl)
    show Calls _ _ _ _ (RetH C R (2 * B) w)
    clear hz hl
    unfold HV at CM
    unfold HV
    clear h h3
    go_enter Try.func59, Try.ntmps59
    go_wp2_with (first | (go_at_call 79; refine Calls.mono CM.out ?_; rintro e w1 ⟨B9, d9, rows9, rfl, hln, ho, hx⟩; have HOP := Lib.hid ho; have HX1 := Lib.hid hx; have HLN := Lib.hid hln; obtain ⟨r0, r1, r2, rl⟩ := (HB.out.ext HX1.out).c3; have F := (HB.out.ext HX1.out).frozen; clear ho hx hln))
    have h9 := (HOP.out.mono (base' := w.heap.size + 1 + 1 + 1) (by have := HZ.out; omega)).far3 (Nat.lt_succ_self _) (by decide) (HB.out.ext HX1.out)
    refine bodyPost_ret (v := .agg #[.int .i64 (C : Int), .int .i64 (R : Int), .slice B9 rows9.length d9]) (by simp [results, Try.results59, go_sem, r0, r1, r2]) rfl ⟨B9, d9, rows9, rfl, HLN.out, ((h9 _ _ _).mono (by omega)).more (by omega), setCell3 (HX.out.trans HX1.out) (by omega) _ _ _⟩
  · have hl8 : n ≤ 8 := by
      have : sideOf C R k ≤ 8 := by unfold sideOf; split <;> omega
      omega
    obtain ⟨m, rfl⟩ : ∃ m : Nat, n = (m : Int) := ⟨n.toNat, by omega⟩
    rcases hk with rfl | rfl | rfl | rfl
    · have hs : sideOf C R 1 = C := rfl
      rw [hs] at hn2
      obtain ⟨q, hq⟩ : ∃ q, q + m = C := ⟨C - m, by omega⟩
      have e1 : foldC C 1 (m : Int) = q := by unfold foldC; rw [if_pos (by omega), Int.toNat_natCast]; omega
      have e2 : foldR R 1 (m : Int) = R := by unfold foldR; rw [if_neg (by omega)]
      rw [e1, e2]
      have CM := Lib.hid (foldLeft_any C R B m q A hd rs _ hC hR (by omega) h3 hl hq (by omega))
      clear hz hl e1 e2 hq hs hn2
      unfold HV at CM
      unfold HV
      clear h h3
      go_enter Try.func59, Try.ntmps59
      go_wp2_with (first | (go_at_call 75; refine Calls.mono CM.out ?_; rintro e w1 ⟨B9, d9, rows9, rfl, hln, ho, hx⟩; have HOP := Lib.hid ho; have HX1 := Lib.hid hx; have HLN := Lib.hid hln; obtain ⟨r0, r1, r2, rl⟩ := (HB.out.ext HX1.out).c3; have F := (HB.out.ext HX1.out).frozen; clear ho hx hln))
      have h9 := (HOP.out.mono (base' := w.heap.size + 1 + 1 + 1) (by have := HZ.out; omega)).far3 (Nat.lt_succ_self _) (by decide) (HB.out.ext HX1.out)
      refine bodyPost_ret (v := .agg #[.int .i64 (q : Int), .int .i64 (R : Int), .slice B9 rows9.length d9]) (by simp [results, Try.results59, go_sem, r0, r1, r2]) rfl ⟨B9, d9, rows9, rfl, HLN.out, ((h9 _ _ _).mono (by omega)).more (by omega), setCell3 (HX.out.trans HX1.out) (by omega) _ _ _⟩
    · have hs : sideOf C R 2 = C := rfl
      rw [hs] at hn2
      obtain ⟨q, hq⟩ : ∃ q, q + m = C := ⟨C - m, by omega⟩
      have e1 : foldC C 2 (m : Int) = q := by unfold foldC; rw [if_pos (by omega), Int.toNat_natCast]; omega
      have e2 : foldR R 2 (m : Int) = R := by unfold foldR; rw [if_neg (by omega)]
      rw [e1, e2]
      have CMI := Lib.hid fun W h => mirrored_any C R B A hd rs true false W hC hR (by omega) h hl
      have CFO := Lib.hid fun A1 d1 rows1 W h hln => foldLeft_any C R B m q A1 d1 rows1 W hC hR (by omega) h hln hq (by omega)
      have CML := Lib.hid fun A1 d1 rows1 W h hln => mirrored_any q R (2 * B) A1 d1 rows1 true false W (by omega) hR (by omega) h hln
      unfold HV at CMI CFO CML
      clear hz hl e1 e2 hq hs hn2
      unfold HV
      go_enter Try.func59, Try.ntmps59
      go_upto_region 5 with fail
      obtain ⟨W0, hW0⟩ : ∃ W0, W3r w C R A rs.length hd 2 m = W0 := ⟨_, rfl⟩
      have hW0' := hW0
      unfold W3r at hW0'
      rw [hW0']
      rw [show W3r w C R A rs.length hd 2 m = W0 from hW0] at HB HX HZ h3 HF HH9
      have H3 := Lib.hid h3
      obtain ⟨hb, hhb⟩ : ∃ hb, hb = w.heap.size := ⟨_, rfl⟩
      obtain ⟨fb, hfb⟩ : ∃ fb, fb = w.heap.size + 1 := ⟨_, rfl⟩
      obtain ⟨qb, hqb⟩ : ∃ qb, qb = w.heap.size + 1 + 1 := ⟨_, rfl⟩
      rw [← hqb] at HB HZ ⊢
      rw [← hfb] at HF ⊢
      rw [← hhb] at HH9 ⊢
      have HQW : Hid (w.heap.size ≤ qb) := Lib.hid (by omega)
      have HQ1 : Hid (qb < W0.heap.size) := Lib.hid (by have := HZ.out; omega)
      clear hW0 hW0' hhb hfb hqb h h3
      have HQ0 : Hid (QG W0 (PF W0.heap.size C R q R B) (HvIn w qb q R (2 * B)) [1, 4, 5] 6 [HV C R A rs.length hd, undef, .pointer (some ⟨fb, 1, none⟩), .int .i64 (m : Int), undef, undef, undef] (List.replicate 7 none) W0.drew) := Lib.hid (QG.start (Ext.refl W0).drew)
      refine wp_region_q (QG W0 (PF W0.heap.size C R q R B) (HvIn w qb q R (2 * B)) [1, 4, 5] 6 _) (by kernel_rfl) (by kernel_rfl) HQ0.out ⟨?_, ?_, ?_, ?_, ?_, ?_, ?_, trivial⟩ ?_
      · intro V W hl hn hd hX hC; have hq : V.length = 7 := hl; obtain ⟨v0, v1, v2, v3, v4, v5, v6, hV⟩ := qlen7 hq; subst hV; obtain rfl : v0 = none := hn
        have hl9 : v6 = none := none_of (fun e => hC 4 _ rfl (hC 5 _ rfl (hC 6 _ rfl e 5 (by decide)) 4 (by decide)) 1 (by decide) |> fun e1 => hC 1 _ rfl e1 0 (by decide)) rfl
        subst hl9
        obtain ⟨k0, k1, k2, kl⟩ := (HH9.out.ext (hX.a rfl)).c3
        clear hl hd hC hq
        refine StepZ.go rfl ?_
        go_simp
        exact hX.known 0 (by decide) (by decide) (by decide)
      · intro V W hl hn hd hX hC; have hq : V.length = 7 := hl; obtain ⟨v0, v1, v2, v3, v4, v5, v6, hV⟩ := qlen7 hq; subst hV; obtain rfl : v1 = none := hn
        have hl9 : v6 = none := none_of (fun e => hC 4 _ rfl (hC 5 _ rfl (hC 6 _ rfl e 5 (by decide)) 4 (by decide)) 1 (by decide)) rfl
        subst hl9
        have g0 : v0.isSome = true := hd 0 (by decide); obtain ⟨u0, rfl⟩ := Option.isSome_iff_exists.1 g0; clear g0; obtain rfl := hX.kn 0 _ (by decide) (by decide) rfl
        clear hl hd hC hq
        refine StepZ.go rfl ?_
        go_simp
        refine Calls.mono (CMI.out _ (H3.out.ext (hX.a rfl))) ?_
        rintro e w' ⟨B9, d9, rows9, rfl, hln, ho, hx⟩
        exact ⟨_, rfl, hX.call 1 (by decide) (by decide) rfl hx (fun k x h => PF.ext h hx) _ ⟨B9, d9, rows9, rfl, hln, ho.mono (Nat.zero_le _)⟩⟩
      · intro V W hl hn hd hX hC; have hq : V.length = 7 := hl; obtain ⟨v0, v1, v2, v3, v4, v5, v6, hV⟩ := qlen7 hq; subst hV; obtain rfl : v2 = none := hn
        clear hl hd hC hq
        refine StepZ.go rfl ?_
        go_simp
        exact hX.known 2 (by decide) (by decide) (by decide)
      · intro V W hl hn hd hX hC; have hq : V.length = 7 := hl; obtain ⟨v0, v1, v2, v3, v4, v5, v6, hV⟩ := qlen7 hq; subst hV; obtain rfl : v3 = none := hn
        have hl9 : v6 = none := none_of (fun e => hC 4 _ rfl (hC 5 _ rfl (hC 6 _ rfl e 5 (by decide)) 4 (by decide)) 3 (by decide)) rfl
        subst hl9
        obtain ⟨f0, f1, _, _, fl⟩ := (HF.out.ext (hX.a rfl)).c2
        have g2 : v2.isSome = true := hd 2 (by decide); obtain ⟨u2, rfl⟩ := Option.isSome_iff_exists.1 g2; clear g2; obtain rfl := hX.kn 2 _ (by decide) (by decide) rfl
        clear hl hd hC hq
        refine StepZ.go rfl ?_
        go_simp
        exact hX.known 3 (by decide) (by decide) (by decide)
      · intro V W hl hn hd hX hC; have hq : V.length = 7 := hl; obtain ⟨v0, v1, v2, v3, v4, v5, v6, hV⟩ := qlen7 hq; subst hV; obtain rfl : v4 = none := hn
        have hl9 : v6 = none := none_of (fun e => hC 5 _ rfl (hC 6 _ rfl e 5 (by decide)) 4 (by decide)) rfl
        subst hl9
        have g3 : v3.isSome = true := hd 3 (by decide); obtain ⟨u3, rfl⟩ := Option.isSome_iff_exists.1 g3; clear g3; obtain rfl := hX.kn 3 _ (by decide) (by decide) rfl
        have g1 : v1.isSome = true := hd 1 (by decide)
        obtain ⟨u1, rfl⟩ := Option.isSome_iff_exists.1 g1
        obtain ⟨B1, d1, rows1, hp1, hp2, hp3⟩ : HvAt 0 C R B u1 W := hX.pc 1 (by decide) _ rfl rfl
        subst hp1
        have CFW := Lib.hid (CFO.out B1 d1 rows1 W hp3 hp2)
        clear hl hd hC hq hp2 hp3
        refine StepZ.go rfl ?_
        go_simp
        refine Calls.mono CFW.out ?_
        rintro e w' ⟨B9, d9, rows9, rfl, hln, ho, hx⟩
        exact ⟨_, rfl, hX.call 4 (by decide) (by decide) rfl hx (fun k x h => PF.ext h hx) _ ⟨B9, d9, rows9, rfl, hln, ho.mono (Nat.zero_le _)⟩⟩
      · intro V W hl hn hd hX hC; have hq : V.length = 7 := hl; obtain ⟨v0, v1, v2, v3, v4, v5, v6, hV⟩ := qlen7 hq; subst hV; obtain rfl : v5 = none := hn
        have hl9 : v6 = none := none_of (fun e => hC 6 _ rfl e 5 (by decide)) rfl
        subst hl9
        have g4 : v4.isSome = true := hd 4 (by decide)
        obtain ⟨u4, rfl⟩ := Option.isSome_iff_exists.1 g4
        obtain ⟨B1, d1, rows1, hp1, hp2, hp3⟩ : HvAt 0 q R (2 * B) u4 W := hX.pc 4 (by decide) _ rfl rfl
        subst hp1
        have CFW := Lib.hid (CML.out B1 d1 rows1 W hp3 hp2)
        have hsz := (hX.a rfl).size
        clear hl hd hC hq hp2 hp3
        refine StepZ.go rfl ?_
        go_simp
        refine Calls.mono CFW.out ?_
        rintro e w' ⟨B9, d9, rows9, rfl, hln, ho, hx⟩
        exact ⟨_, rfl, hX.call 5 (by decide) (by decide) rfl hx (fun k x h => PF.ext h hx) _ ⟨B9, d9, rows9, rfl, hln, ho.mono hsz⟩⟩
      · intro V W hl hn hd hX hC; have hq : V.length = 7 := hl; obtain ⟨v0, v1, v2, v3, v4, v5, v6, hV⟩ := qlen7 hq; subst hV; obtain rfl : v6 = none := hn
        have g5 : v5.isSome = true := hd 5 (by decide)
        obtain ⟨u5, rfl⟩ := Option.isSome_iff_exists.1 g5
        obtain ⟨B1, d1, rows1, hp1, hp2, hp3⟩ : HvAt W0.heap.size q R (2 * B) u5 W := hX.pc 5 (by decide) _ rfl rfl
        subst hp1
        have hbq := HB.out.ext (hX.a rfl)
        have hfin := HvIn.of HQW.out (HX.out.trans (hX.a rfl)) hbq hp2 hp3 HQ1.out
        have hst := fun y => hX.store hfin y
        obtain ⟨k0, k1, k2, kl⟩ := hbq.c3
        have F := hbq.frozen
        clear hl hd hC hq hp2 hp3 hbq hfin
        refine StepZ.go rfl ?_
        go_simp
        exact ⟨rfl, hst undef⟩
      · intro V W hl hV hX
        have hq : V.length = 7 := hl
        obtain ⟨v0, v1, v2, v3, v4, v5, v6, hW⟩ := qlen7 hq
        subst hW
        have g6 : v6.isSome = true := hV 6 (by decide)
        obtain ⟨u6, rfl⟩ := Option.isSome_iff_exists.1 g6
        obtain ⟨B9, d9, rows9, hln, ho, hbk, hx⟩ := hX.d _ rfl
        have HLN := Lib.hid hln; have HOP := Lib.hid ho; have HX9 := Lib.hid hx
        obtain ⟨r0, r1, r2, rl⟩ := hbk.c3
        clear hl hV hq g6 hX hln ho hbk hx HQ0
        simp only [putAll, known, List.map_cons, List.map_nil, Act.put, List.setIfInBounds_toArray, List.set_cons_zero, List.set_cons_succ, Option.getD_some]
        go_wp2
        refine bodyPost_ret (v := .agg #[.int .i64 (q : Int), .int .i64 (R : Int), .slice B9 rows9.length d9]) (by simp [results, Try.results59, go_sem, r0, r1, r2]) rfl ⟨B9, d9, rows9, rfl, HLN.out, HOP.out.mono (by have := HQW.out; omega), HX9.out⟩
    · have hs : sideOf C R 3 = R := rfl
      rw [hs] at hn2
      obtain ⟨q, hq⟩ : ∃ q, q + m = R := ⟨R - m, by omega⟩
      have e1 : foldC C 3 (m : Int) = C := by unfold foldC; rw [if_neg (by omega)]
      have e2 : foldR R 3 (m : Int) = q := by unfold foldR; rw [if_pos (by omega), Int.toNat_natCast]; omega
      rw [e1, e2]
      have CM := Lib.hid (foldUp_any C R B m q A hd rs _ hC hR (by omega) h3 hl hq (by omega))
      clear hz hl e1 e2 hq hs hn2
      unfold HV at CM
      unfold HV
      clear h h3
      go_enter Try.func59, Try.ntmps59
      go_wp2_with (first | (go_at_call 77; refine Calls.mono CM.out ?_; rintro e w1 ⟨B9, d9, rows9, rfl, hln, ho, hx⟩; have HOP := Lib.hid ho; have HX1 := Lib.hid hx; have HLN := Lib.hid hln; obtain ⟨r0, r1, r2, rl⟩ := (HB.out.ext HX1.out).c3; have F := (HB.out.ext HX1.out).frozen; clear ho hx hln))
      have h9 := (HOP.out.mono (base' := w.heap.size + 1 + 1 + 1) (by have := HZ.out; omega)).far3 (Nat.lt_succ_self _) (by decide) (HB.out.ext HX1.out)
      refine bodyPost_ret (v := .agg #[.int .i64 (C : Int), .int .i64 (q : Int), .slice B9 rows9.length d9]) (by simp [results, Try.results59, go_sem, r0, r1, r2]) rfl ⟨B9, d9, rows9, rfl, HLN.out, ((h9 _ _ _).mono (by omega)).more (by omega), setCell3 (HX.out.trans HX1.out) (by omega) _ _ _⟩
    · have hs : sideOf C R 4 = R := rfl
      rw [hs] at hn2
      obtain ⟨q, hq⟩ : ∃ q, q + m = R := ⟨R - m, by omega⟩
      have e1 : foldC C 4 (m : Int) = C := by unfold foldC; rw [if_neg (by omega)]
      have e2 : foldR R 4 (m : Int) = q := by unfold foldR; rw [if_pos (by omega), Int.toNat_natCast]; omega
      rw [e1, e2]
      have CMI := Lib.hid fun W h => mirrored_any C R B A hd rs false true W hC hR (by omega) h hl
      have CFO := Lib.hid fun A1 d1 rows1 W h hln => foldUp_any C R B m q A1 d1 rows1 W hC hR (by omega) h hln hq (by omega)
      have CML := Lib.hid fun A1 d1 rows1 W h hln => mirrored_any C q (2 * B) A1 d1 rows1 false true W hC (by omega) (by omega) h hln
      unfold HV at CMI CFO CML
      clear hz hl e1 e2 hq hs hn2
      unfold HV
      go_enter Try.func59, Try.ntmps59
      go_upto_region 9 with fail
      obtain ⟨W0, hW0⟩ : ∃ W0, W3r w C R A rs.length hd 4 m = W0 := ⟨_, rfl⟩
      have hW0' := hW0
      unfold W3r at hW0'
      rw [hW0']
      rw [show W3r w C R A rs.length hd 4 m = W0 from hW0] at HB HX HZ h3 HF HH9
      have H3 := Lib.hid h3
      obtain ⟨hb, hhb⟩ : ∃ hb, hb = w.heap.size := ⟨_, rfl⟩
      obtain ⟨fb, hfb⟩ : ∃ fb, fb = w.heap.size + 1 := ⟨_, rfl⟩
      obtain ⟨qb, hqb⟩ : ∃ qb, qb = w.heap.size + 1 + 1 := ⟨_, rfl⟩
      rw [← hqb] at HB HZ ⊢
      rw [← hfb] at HF ⊢
      rw [← hhb] at HH9 ⊢
      have HQW : Hid (w.heap.size ≤ qb) := Lib.hid (by omega)
      have HQ1 : Hid (qb < W0.heap.size) := Lib.hid (by have := HZ.out; omega)
      clear hW0 hW0' hhb hfb hqb h h3
      have HQ0 : Hid (QG W0 (PF W0.heap.size C R C q B) (HvIn w qb C q (2 * B)) [1, 4, 5] 6 [HV C R A rs.length hd, undef, .pointer (some ⟨fb, 1, none⟩), .int .i64 (m : Int), undef, undef, undef] (List.replicate 7 none) W0.drew) := Lib.hid (QG.start (Ext.refl W0).drew)
      refine wp_region_q (QG W0 (PF W0.heap.size C R C q B) (HvIn w qb C q (2 * B)) [1, 4, 5] 6 _) (by kernel_rfl) (by kernel_rfl) HQ0.out ⟨?_, ?_, ?_, ?_, ?_, ?_, ?_, trivial⟩ ?_
      · intro V W hl hn hd hX hC; have hq : V.length = 7 := hl; obtain ⟨v0, v1, v2, v3, v4, v5, v6, hV⟩ := qlen7 hq; subst hV; obtain rfl : v0 = none := hn
        have hl9 : v6 = none := none_of (fun e => hC 4 _ rfl (hC 5 _ rfl (hC 6 _ rfl e 5 (by decide)) 4 (by decide)) 1 (by decide) |> fun e1 => hC 1 _ rfl e1 0 (by decide)) rfl
        subst hl9
        obtain ⟨k0, k1, k2, kl⟩ := (HH9.out.ext (hX.a rfl)).c3
        clear hl hd hC hq
        refine StepZ.go rfl ?_
        go_simp
        exact hX.known 0 (by decide) (by decide) (by decide)
      · intro V W hl hn hd hX hC; have hq : V.length = 7 := hl; obtain ⟨v0, v1, v2, v3, v4, v5, v6, hV⟩ := qlen7 hq; subst hV; obtain rfl : v1 = none := hn
        have hl9 : v6 = none := none_of (fun e => hC 4 _ rfl (hC 5 _ rfl (hC 6 _ rfl e 5 (by decide)) 4 (by decide)) 1 (by decide)) rfl
        subst hl9
        have g0 : v0.isSome = true := hd 0 (by decide); obtain ⟨u0, rfl⟩ := Option.isSome_iff_exists.1 g0; clear g0; obtain rfl := hX.kn 0 _ (by decide) (by decide) rfl
        clear hl hd hC hq
        refine StepZ.go rfl ?_
        go_simp
        refine Calls.mono (CMI.out _ (H3.out.ext (hX.a rfl))) ?_
        rintro e w' ⟨B9, d9, rows9, rfl, hln, ho, hx⟩
        exact ⟨_, rfl, hX.call 1 (by decide) (by decide) rfl hx (fun k x h => PF.ext h hx) _ ⟨B9, d9, rows9, rfl, hln, ho.mono (Nat.zero_le _)⟩⟩
      · intro V W hl hn hd hX hC; have hq : V.length = 7 := hl; obtain ⟨v0, v1, v2, v3, v4, v5, v6, hV⟩ := qlen7 hq; subst hV; obtain rfl : v2 = none := hn
        clear hl hd hC hq
        refine StepZ.go rfl ?_
        go_simp
        exact hX.known 2 (by decide) (by decide) (by decide)
      · intro V W hl hn hd hX hC; have hq : V.length = 7 := hl; obtain ⟨v0, v1, v2, v3, v4, v5, v6, hV⟩ := qlen7 hq; subst hV; obtain rfl : v3 = none := hn
        have hl9 : v6 = none := none_of (fun e => hC 4 _ rfl (hC 5 _ rfl (hC 6 _ rfl e 5 (by decide)) 4 (by decide)) 3 (by decide)) rfl
        subst hl9
        obtain ⟨f0, f1, _, _, fl⟩ := (HF.out.ext (hX.a rfl)).c2
        have g2 : v2.isSome = true := hd 2 (by decide); obtain ⟨u2, rfl⟩ := Option.isSome_iff_exists.1 g2; clear g2; obtain rfl := hX.kn 2 _ (by decide) (by decide) rfl
        clear hl hd hC hq
        refine StepZ.go rfl ?_
        go_simp
        exact hX.known 3 (by decide) (by decide) (by decide)
      · intro V W hl hn hd hX hC; have hq : V.length = 7 := hl; obtain ⟨v0, v1, v2, v3, v4, v5, v6, hV⟩ := qlen7 hq; subst hV; obtain rfl : v4 = none := hn
        have hl9 : v6 = none := none_of (fun e => hC 5 _ rfl (hC 6 _ rfl e 5 (by decide)) 4 (by decide)) rfl
        subst hl9
        have g3 : v3.isSome = true := hd 3 (by decide); obtain ⟨u3, rfl⟩ := Option.isSome_iff_exists.1 g3; clear g3; obtain rfl := hX.kn 3 _ (by decide) (by decide) rfl
        have g1 : v1.isSome = true := hd 1 (by decide)
        obtain ⟨u1, rfl⟩ := Option.isSome_iff_exists.1 g1
        obtain ⟨B1, d1, rows1, hp1, hp2, hp3⟩ : HvAt 0 C R B u1 W := hX.pc 1 (by decide) _ rfl rfl
        subst hp1
        have CFW := Lib.hid (CFO.out B1 d1 rows1 W hp3 hp2)
        clear hl hd hC hq hp2 hp3
        refine StepZ.go rfl ?_
        go_simp
        refine Calls.mono CFW.out ?_
        rintro e w' ⟨B9, d9, rows9, rfl, hln, ho, hx⟩
        exact ⟨_, rfl, hX.call 4 (by decide) (by decide) rfl hx (fun k x h => PF.ext h hx) _ ⟨B9, d9, rows9, rfl, hln, ho.mono (Nat.zero_le _)⟩⟩
      · intro V W hl hn hd hX hC; have hq : V.length = 7 := hl; obtain ⟨v0, v1, v2, v3, v4, v5, v6, hV⟩ := qlen7 hq; subst hV; obtain rfl : v5 = none := hn
        have hl9 : v6 = none := none_of (fun e => hC 6 _ rfl e 5 (by decide)) rfl
        subst hl9
        have g4 : v4.isSome = true := hd 4 (by decide)
        obtain ⟨u4, rfl⟩ := Option.isSome_iff_exists.1 g4
        obtain ⟨B1, d1, rows1, hp1, hp2, hp3⟩ : HvAt 0 C q (2 * B) u4 W := hX.pc 4 (by decide) _ rfl rfl
        subst hp1
        have CFW := Lib.hid (CML.out B1 d1 rows1 W hp3 hp2)
        have hsz := (hX.a rfl).size
        clear hl hd hC hq hp2 hp3
        refine StepZ.go rfl ?_
        go_simp
        refine Calls.mono CFW.out ?_
        rintro e w' ⟨B9, d9, rows9, rfl, hln, ho, hx⟩
        exact ⟨_, rfl, hX.call 5 (by decide) (by decide) rfl hx (fun k x h => PF.ext h hx) _ ⟨B9, d9, rows9, rfl, hln, ho.mono hsz⟩⟩
      · intro V W hl hn hd hX hC; have hq : V.length = 7 := hl; obtain ⟨v0, v1, v2, v3, v4, v5, v6, hV⟩ := qlen7 hq; subst hV; obtain rfl : v6 = none := hn
        have g5 : v5.isSome = true := hd 5 (by decide)
        obtain ⟨u5, rfl⟩ := Option.isSome_iff_exists.1 g5
        obtain ⟨B1, d1, rows1, hp1, hp2, hp3⟩ : HvAt W0.heap.size C q (2 * B) u5 W := hX.pc 5 (by decide) _ rfl rfl
        subst hp1
        have hbq := HB.out.ext (hX.a rfl)
        have hfin := HvIn.of HQW.out (HX.out.trans (hX.a rfl)) hbq hp2 hp3 HQ1.out
        have hst := fun y => hX.store hfin y
        obtain ⟨k0, k1, k2, kl⟩ := hbq.c3
        have F := hbq.frozen
        clear hl hd hC hq hp2 hp3 hbq hfin
        refine StepZ.go rfl ?_
        go_simp
        exact ⟨rfl, hst undef⟩
      · intro V W hl hV hX
        have hq : V.length = 7 := hl
        obtain ⟨v0, v1, v2, v3, v4, v5, v6, hW⟩ := qlen7 hq
        subst hW
        have g6 : v6.isSome = true := hV 6 (by decide)
        obtain ⟨u6, rfl⟩ := Option.isSome_iff_exists.1 g6
        obtain ⟨B9, d9, rows9, hln, ho, hbk, hx⟩ := hX.d _ rfl
        have HLN := Lib.hid hln; have HOP := Lib.hid ho; have HX9 := Lib.hid hx
        obtain ⟨r0, r1, r2, rl⟩ := hbk.c3
        clear hl hV hq g6 hX hln ho hbk hx HQ0
        simp only [putAll, known, List.map_cons, List.map_nil, Act.put, List.setIfInBounds_toArray, List.set_cons_zero, List.set_cons_succ, Option.getD_some]
        go_wp2
        refine bodyPost_ret (v := .agg #[.int .i64 (C : Int), .int .i64 (q : Int), .slice B9 rows9.length d9]) (by simp [results, Try.results59, go_sem, r0, r1, r2]) rfl ⟨B9, d9, rows9, rfl, HLN.out, HOP.out.mono (by have := HQW.out; omega), HX9.out⟩
end Go.Proofs.Ytniiahddpdiocaa
