/-
  The walk of TopFolded: up to its scheme.
-/
import Derived.Test.YtniiahddpdiocaaFoldTop
namespace Go.Proofs.Ytniiahddpdiocaa
open Go.RowKit
attribute [local go_sem ↓] Go.wp_at_zero Go.wp_at_succ
attribute [local go_sem] stateAt vu known List.map_cons List.map_nil Option.getD_some

set_option maxRecDepth 100000 in
set_option maxHeartbeats 8000000 in
theorem top_main (C R : Int) (G : Nat) (B : Option Addr) (d : Nat) (fs : List (Int × Int)) (w : World) (h : RFo w B fs) (hI : ∀ k, k < fs.length → I64 (fs.getD k (0, 0)).2) (hl : fs.length ≤ 12) (hP1 : 1 ≤ G) (hP2 : G ≤ 300) :
    Calls Try.prog 3 #[.agg #[.int .i64 C, .int .i64 R], .slice B fs.length d, .int .i64 (G : Int)] w (Ret (.bool true) w) := by
  have CI := Lib.hid imposed_any
  have CS := Lib.hid fun A c W h => (schemeOf_any C R A c fs W h hI hl)
  have CK := Lib.hid fun W h => (rCheckFolds_any C R B d fs W h hI hl)
  have HF := Lib.hid h
  have HI := Lib.hid hI
  have HL := Lib.hid hl
  have i12 : ¬ (12 : Int) < (fs.length : Int) := by omega
  have HSH := Lib.hid (Blk.new w 22 #[.int .i64 C, .int .i64 R])
  have HX0 : Hid (Ext w (w.alloc (.cells #[.int .i64 C, .int .i64 R] 22))) := Lib.hid (by repeat (first | exact Ext.refl _ | assumption | refine Ext.alloc ?_ _ | refine Ext.drew ?_ | refine Ext.drewN ?_ _ | (refine Ext.setCell ?_ (by simp <;> omega) _) | refine Ext.trans ?_ (by assumption)))
  have mixed : Try.prog.follows .mixedOrders = true := by kernel_rfl
  clear h hI hl
  go_enter Try.func3, Try.ntmps3
  go_upto_region 1 with fail
  generalize (w.alloc (.cells #[.int .i64 C, .int .i64 R] 22)) = w0 at *
  obtain ⟨sb, hsb⟩ : ∃ sb, w.heap.size = sb := ⟨_, rfl⟩
  rw [hsb] at HSH ⊢
  clear hsb
  go_upto_region 5 with (first | (go_at_call 5; refine Calls.mono (CI.out _) ?_; rintro e w1 ⟨rfl, hx⟩; have HX1 := Lib.hid (HX0.out.trans hx); have HS1 := Lib.hid (HSH.out.ext hx); clear hx) | (go_at_call 6; refine Calls.mono (bWi_yes _ _ _ _ ?_) ?_; (omega); rintro e w1 ⟨rfl, rfl⟩))
  have HQ0 : Hid (QK w1 11 9 (PcT C R fs w1.heap.size) (PzT C R B d fs) 8 (DT C R fs w1) (List.replicate 11 none) w1.drew) := Lib.hid (QK.start (Ext.refl w1).drew)
  refine wp_region_q (QK w1 11 9 (PcT C R fs w1.heap.size) (PzT C R B d fs) 8 (DT C R fs w1)) (by kernel_rfl) (by kernel_rfl) HQ0.out ⟨?_, ?_, ?_, ?_, ?_, ?_, ?_, ?_, ?_, ?_, ?_, trivial⟩ ?_
  · intro V W hl hn hd hX hC; have hq : V.length = 11 := hl; obtain ⟨v0, v1, v2, v3, v4, v5, v6, v7, v8, v9, v10, hV⟩ := qlen11 hq; subst hV; obtain rfl : v0 = none := hn
    have hl9 : v9 = none := none_of (fun e => hC 4 _ rfl (hC 5 _ rfl (hC 6 _ rfl (hC 9 _ rfl e 6 (by decide)) 5 (by decide)) 4 (by decide)) 0 (by decide)) rfl
    subst hl9
    have hst := hX.call rfl 0 (by decide) (by decide) (Ext.refl W) (fun k x h => h) (.agg #[.int .i64 C, .int .i64 R]) rfl trivial
    obtain ⟨k0, k1, _, _, kl⟩ := (HS1.out.ext (hX.a rfl)).c2
    clear hl hd hC hq
    refine StepZ.go rfl ?_
    go_simp
    exact hst
  · intro V W hl hn hd hX hC; have hq : V.length = 11 := hl; obtain ⟨v0, v1, v2, v3, v4, v5, v6, v7, v8, v9, v10, hV⟩ := qlen11 hq; subst hV; obtain rfl : v1 = none := hn
    have hl9 : v9 = none := none_of (fun e => hC 3 _ rfl (hC 4 _ rfl (hC 5 _ rfl (hC 6 _ rfl (hC 9 _ rfl e 6 (by decide)) 5 (by decide)) 4 (by decide)) 3 (by decide)) 1 (by decide)) rfl
    subst hl9
    have hsz := (hX.a rfl).size
    have hst := hX.call rfl 1 (by decide) (by decide) ((Ext.refl W).alloc _) (PcT.ext ((Ext.refl W).alloc (.cells #[] 82))) (.slice (some ⟨W.heap.size, 0, none⟩) 0 0) trivial ⟨W.heap.size, rfl, (fo_lit0 W).mono hsz⟩
    clear hl hd hC hq
    refine StepZ.go rfl ?_
    go_simp
    exact hst
  · intro V W hl hn hd hX hC; have hq : V.length = 11 := hl; obtain ⟨v0, v1, v2, v3, v4, v5, v6, v7, v8, v9, v10, hV⟩ := qlen11 hq; subst hV; obtain rfl : v2 = none := hn
    have hl9 : v9 = none := none_of (fun e => hC 3 _ rfl (hC 4 _ rfl (hC 5 _ rfl (hC 6 _ rfl (hC 9 _ rfl e 6 (by decide)) 5 (by decide)) 4 (by decide)) 3 (by decide)) 2 (by decide)) rfl
    subst hl9
    have hst := hX.call rfl 2 (by decide) (by decide) (Ext.refl W) (fun k x h => h) (.slice B fs.length d) rfl trivial
    clear hl hd hC hq
    refine StepZ.go rfl ?_
    go_simp
    exact hst
  · intro V W hl hn hd hX hC; have hq : V.length = 11 := hl; obtain ⟨v0, v1, v2, v3, v4, v5, v6, v7, v8, v9, v10, hV⟩ := qlen11 hq; subst hV; obtain rfl : v3 = none := hn
    have hl9 : v9 = none := none_of (fun e => hC 4 _ rfl (hC 5 _ rfl (hC 6 _ rfl (hC 9 _ rfl e 6 (by decide)) 5 (by decide)) 4 (by decide)) 3 (by decide)) rfl
    subst hl9
    have g1 : v1.isSome = true := hd 1 (by decide)
    obtain ⟨u1, rfl⟩ := Option.isSome_iff_exists.1 g1
    clear g1
    have g2 : v2.isSome = true := hd 2 (by decide)
    obtain ⟨u2, rfl⟩ := Option.isSome_iff_exists.1 g2
    clear g2
    obtain ⟨g, rfl, ho⟩ : PcT C R fs w1.heap.size 1 u1 W := hX.pc 1 _ rfl rfl
    obtain rfl : u2 = .slice B fs.length d := hX.pz 2 _ rfl
    have hsz := (hX.a rfl).size
    clear hl hd hC hq
    refine StepZ.cloneK foldElt rfl (.tmp 31) (.tmp 32) rfl w1.heap.size g (by go_simp) ho B fs.length d (foCells fs) (by go_simp) (RFo.ext HF.out (HX1.out.trans (hX.a rfl))) (foCells_one fs) (by have := HL.out; omega) hsz fun v' w' h1 h2 => ?_
    obtain ⟨A9, c9, rfl, h3⟩ := own_form h1 (by have := HL.out; omega)
    exact hX.call rfl 3 (by decide) (by decide) h2 (PcT.ext h2) _ trivial ⟨A9, c9, rfl, h3⟩
  · intro V W hl hn hd hX hC; have hq : V.length = 11 := hl; obtain ⟨v0, v1, v2, v3, v4, v5, v6, v7, v8, v9, v10, hV⟩ := qlen11 hq; subst hV; obtain rfl : v4 = none := hn
    have hl9 : v9 = none := none_of (fun e => hC 5 _ rfl (hC 6 _ rfl (hC 9 _ rfl e 6 (by decide)) 5 (by decide)) 4 (by decide)) rfl
    subst hl9
    have g0 : v0.isSome = true := hd 0 (by decide)
    obtain ⟨u0, rfl⟩ := Option.isSome_iff_exists.1 g0
    clear g0
    have g3 : v3.isSome = true := hd 3 (by decide)
    obtain ⟨u3, rfl⟩ := Option.isSome_iff_exists.1 g3
    clear g3
    obtain rfl : u0 = .agg #[.int .i64 C, .int .i64 R] := hX.pz 0 _ rfl
    obtain ⟨A9, c9, rfl, hr⟩ : PcT C R fs w1.heap.size 3 u3 W := hX.pc 3 _ rfl rfl
    have hcl := CS.out A9 c9 W hr
    clear hl hd hC hq
    refine StepZ.go rfl ?_
    go_simp
    refine hcl.mono fun e w' h9 => ?_
    obtain ⟨s, x, rfl, h1, h2, h3⟩ := h9.form
    exact ⟨_, rfl, hX.call rfl 4 (by decide) (by decide) h3 (PcT.ext h3) _ ⟨s, x, rfl, h2⟩ ⟨s, x, rfl, h1, h2⟩⟩
  · intro V W hl hn hd hX hC; have hq : V.length = 11 := hl; obtain ⟨v0, v1, v2, v3, v4, v5, v6, v7, v8, v9, v10, hV⟩ := qlen11 hq; subst hV; obtain rfl : v5 = none := hn
    have hl9 : v9 = none := none_of (fun e => hC 6 _ rfl (hC 9 _ rfl e 6 (by decide)) 5 (by decide)) rfl
    subst hl9
    have g4 : v4.isSome = true := hd 4 (by decide)
    obtain ⟨u4, rfl⟩ := Option.isSome_iff_exists.1 g4
    clear g4
    obtain ⟨s, y, rfl, h1, h2⟩ : PcT C R fs w1.heap.size 4 u4 W := hX.pc 4 _ rfl rfl
    have hst := hX.call rfl 5 (by decide) (by decide) (Ext.refl W) (fun k x h => h) (.tuple #[s, y]) ⟨s, y, rfl, h2⟩ ⟨s, y, rfl, h1, h2⟩
    clear hl hd hC hq
    refine StepZ.go rfl ?_
    go_simp
    exact hst
  · intro V W hl hn hd hX hC; have hq : V.length = 11 := hl; obtain ⟨v0, v1, v2, v3, v4, v5, v6, v7, v8, v9, v10, hV⟩ := qlen11 hq; subst hV; obtain rfl : v6 = none := hn
    have hl9 : v9 = none := none_of (fun e => hC 9 _ rfl e 6 (by decide)) rfl
    subst hl9
    have g5 : v5.isSome = true := hd 5 (by decide)
    obtain ⟨u5, rfl⟩ := Option.isSome_iff_exists.1 g5
    clear g5
    obtain ⟨s, y, rfl, h1, h2⟩ : PcT C R fs w1.heap.size 5 u5 W := hX.pc 5 _ rfl rfl
    have hst := hX.call rfl 6 (by decide) (by decide) (Ext.refl W) (fun k x h => h) s trivial h1
    clear hl hd hC hq
    refine StepZ.go rfl ?_
    go_simp
    exact hst
  · intro V W hl hn hd hX hC; have hq : V.length = 11 := hl; obtain ⟨v0, v1, v2, v3, v4, v5, v6, v7, v8, v9, v10, hV⟩ := qlen11 hq; subst hV; obtain rfl : v7 = none := hn
    have g5 : v5.isSome = true := hd 5 (by decide)
    obtain ⟨u5, rfl⟩ := Option.isSome_iff_exists.1 g5
    clear g5
    obtain ⟨s, y, rfl, h2⟩ : PzT C R B d fs 5 u5 := hX.pz 5 _ rfl
    have hst := hX.pure 7 (by decide) (by decide) (by decide) y h2 (fun _ _ => trivial)
    clear hl hd hC hq
    refine StepZ.go rfl ?_
    go_simp
    exact hst
  · intro V W hl hn hd hX hC; have hq : V.length = 11 := hl; obtain ⟨v0, v1, v2, v3, v4, v5, v6, v7, v8, v9, v10, hV⟩ := qlen11 hq; subst hV; obtain rfl : v8 = none := hn
    have hl9 : v9 = none := none_of (fun e => hC 9 _ rfl e 8 (by decide)) rfl
    subst hl9
    have hsz := (hX.a rfl).size
    have hx9 := (Ext.refl W).alloc (.cells #[.int .i64 0, .int .i64 0, .slice none 0 0] 28)
    have hst := hX.call rfl 8 (by decide) (by decide) hx9 (PcT.ext hx9) _ trivial ⟨W.heap.size, rfl, hsz, Blk.new _ _ _⟩
    clear hl hd hC hq
    refine StepZ.go rfl ?_
    go_simp
    exact hst
  · intro V W hl hn hd hX hC; have hq : V.length = 11 := hl; obtain ⟨v0, v1, v2, v3, v4, v5, v6, v7, v8, v9, v10, hV⟩ := qlen11 hq; subst hV; obtain rfl : v9 = none := hn
    have g6 : v6.isSome = true := hd 6 (by decide)
    obtain ⟨u6, rfl⟩ := Option.isSome_iff_exists.1 g6
    clear g6
    have g8 : v8.isSome = true := hd 8 (by decide)
    obtain ⟨u8, rfl⟩ := Option.isSome_iff_exists.1 g8
    clear g8
    obtain ⟨c', r', A9, n9, c9, rfl, hg9⟩ : SoV C R fs W u6 := hX.pc 6 _ rfl rfl
    obtain ⟨pp, rfl, hpb, hbk⟩ : PcT C R fs w1.heap.size 8 u8 W := hX.pc 8 _ rfl rfl
    have hst := hX.store (by decide) (by decide) _ rfl (DT.of (hX.a rfl) hpb hbk hg9) undef trivial
    obtain ⟨z0, z1, z2, zl⟩ := hbk.c3
    have F := hbk.frozen
    clear hl hd hC hq
    refine StepZ.go rfl ?_
    go_simp
    exact ⟨rfl, hst⟩
  · intro V W hl hn hd hX hC; have hq : V.length = 11 := hl; obtain ⟨v0, v1, v2, v3, v4, v5, v6, v7, v8, v9, v10, hV⟩ := qlen11 hq; subst hV; obtain rfl : v10 = none := hn
    have g7 : v7.isSome = true := hd 7 (by decide)
    obtain ⟨u7, rfl⟩ := Option.isSome_iff_exists.1 g7
    clear g7
    obtain ⟨z9, rfl, hz9⟩ : SoE C R fs u7 := hX.pz 7 _ rfl
    have hst := hX.pure 10 (by decide) (by decide) (by decide) (.int .i64 z9) ⟨z9, rfl, hz9⟩ (fun _ _ => trivial)
    clear hl hd hC hq
    refine StepZ.go rfl ?_
    go_simp
    exact hst
  · intro V W hl hV hX
    have hq : V.length = 11 := hl
    obtain ⟨v0, v1, v2, v3, v4, v5, v6, v7, v8, v9, v10, hW⟩ := qlen11 hq
    subst hW
    have g8 : v8.isSome = true := hV 8 (by decide)
    obtain ⟨u8, rfl⟩ := Option.isSome_iff_exists.1 g8
    have g9 : v9.isSome = true := hV 9 (by decide)
    obtain ⟨u9, rfl⟩ := Option.isSome_iff_exists.1 g9
    have g10 : v10.isSome = true := hV 10 (by decide)
    obtain ⟨u10, rfl⟩ := Option.isSome_iff_exists.1 g10
    obtain ⟨z, rfl, hz⟩ : SoE C R fs u10 := hX.pz 10 _ rfl
    obtain ⟨p, c', r', A9, n9, c9, rfl, hxx, hbk, hsg⟩ := hX.d _ _ rfl rfl
    clear hl hV hq g8 g9 g10 hX HQ0
    have HX2 := Lib.hid (HX1.out.trans hxx)
    have HB2 := Lib.hid hbk
    have HS2 := Lib.hid (HS1.out.ext hxx)
    have HSG := Lib.hid hsg
    have HZ := Lib.hid hz
    clear hxx hbk hsg hz
    simp only [putAll, known, List.map_cons, List.map_nil, Act.put, List.setIfInBounds_toArray, List.set_cons_zero, List.set_cons_succ, Option.getD_some]
    obtain ⟨s0, s1, _, _, sl⟩ := HS2.out.c2
    by_cases hg : GoodF C R fs
    case neg =>
      -- BEGIN A
      have hz : z ≠ 0 := fun e => hg (HZ.out.2 e)
      have ez : (z != 0) = true := by simpa using hz
      have HG := Lib.hid hg
      clear hz hg
      go_upto_region 7 with (first | (go_at_call 8; refine Calls.mono (CK.out _ (HF.out.ext HX2.out)) ?_; rintro e w3 ⟨i3, z3, rfl, hx, hz3⟩; have HX3 := Lib.hid hx; have ez3 : (z3 != 0) = true := (by simpa using fun e => HG.out (hz3.1 e)); clear hx hz3))
      go_wp2
      refine bodyPost_ret (v := .bool true) (by simp [results, Try.results3, go_sem]) rfl (Ret.mk' rfl (HX2.out.trans HX3.out))
      -- END A
    case pos =>
      -- BEGIN B
      obtain rfl : z = 0 := HZ.out.1 hg
      obtain ⟨rfl, rfl, rfl, hso⟩ := HSG.out hg
      obtain ⟨hon, C', R', rfl, rfl, c1, c8, r1, r8, hrc⟩ := hg.once
      have CRD0 := Lib.hid fun A B a b W h1 h2 => reads_any C' R' A B a b (cellsOf C' R' (leavesOf (C' : Int) (R' : Int) fs)) fs W hg rfl h1 h2 HI.out HL.out
      rw [Int.toNat_natCast, Int.toNat_natCast] at hso
      rw [Int.toNat_natCast, Int.toNat_natCast] at HB2
      have hcl : (cellsOf C' R' (leavesOf (C' : Int) (R' : Int) fs)).length = R' * C' := cellsOf_len _ _ _
      have HG := Lib.hid hg
      clear hon HSG HZ CS CI hg
      generalize cellsOf C' R' (leavesOf (C' : Int) (R' : Int) fs) = cs at *
      rw [← hcl] at hso HB2
      obtain ⟨Q, hQ⟩ : ∃ Q, Q = 2 * (R' * C') := ⟨_, rfl⟩
      rw [← hQ] at CRD0
      have HCS : Hid (cs.length ≤ 1000 ∧ cs.length ≤ 9223372036854775807) := Lib.hid (by omega)
      have hQ1 : 2 ≤ Q := by have : 1 * 1 ≤ R' * C' := Nat.mul_le_mul r1 c1; omega
      have hQ2 : Q ≤ 64 := by omega
      have hQ3 : Q % 2 = 0 := by omega
      have u1 : IntKind.i64.wrap (2 * (C' : Int)) = 2 * (C' : Int) := IntWalk.i64_in _ (by omega)
      have u2 : IntKind.i64.wrap (2 * (C' : Int) * (R' : Int)) = (Q : Int) := by
        have e : 2 * (C' : Int) * (R' : Int) = (Q : Int) := by rw [hQ, Nat.mul_comm R' C', Int.mul_assoc, Int.natCast_mul, Int.natCast_mul]; rfl
        rw [e]; exact IntWalk.i64_in _ (by omega)
      obtain ⟨N, hN⟩ : ∃ N, N = (G + Q - 1) / Q := ⟨_, rfl⟩
      have hd1 := Nat.div_add_mod (G + Q - 1) Q
      have hd2 := Nat.mod_lt (G + Q - 1) (y := Q) (by omega)
      rw [← hN, Nat.mul_comm] at hd1
      have hN1 : G ≤ N * Q := by omega
      have hN2 : N * Q < G + Q := by omega
      have hN3 : 1 ≤ N := by
        rcases Nat.eq_zero_or_pos N with h0 | h0
        · rw [h0, Nat.zero_mul] at hN1; omega
        · exact h0
      have hN5 : (N - 1) * Q < G := by rw [Nat.sub_mul, Nat.one_mul]; omega
      have hN4 : N ≤ G := by
        have : (N - 1) * 1 ≤ (N - 1) * Q := Nat.mul_le_mul_left _ (by omega)
        omega
      have CSG := Lib.hid fun W => signatures_any G Q N W hP1 (by omega) hQ1 hQ2 hQ3 hN1 hN2
      have HSO := Lib.hid hso
      have HQ := Lib.hid (show 2 ≤ Q ∧ Q ≤ 64 from ⟨hQ1, hQ2⟩)
      have HN := Lib.hid (show G ≤ N * Q ∧ N * Q < G + Q ∧ (N - 1) * Q < G from ⟨hN1, hN2, hN5⟩)
      have iNG : ¬ (G : Int) < (N : Int) := by omega
      clear hd1 hd2 hN hN1 hN2 hN5 hQ hQ3 hso hcl hrc r1 r8 c1 c8
      go_upto_region 7 with (first | (go_at_call 8; refine Calls.mono (CK.out _ (HF.out.ext HX2.out)) ?_; rintro e w3 ⟨i3, z3, rfl, hx, hz3⟩; have HX3 := Lib.hid (HX2.out.trans hx); obtain rfl : z3 = 0 := hz3.2 HG.out; have HB3 := Lib.hid (HB2.out.ext hx); have HS3 := Lib.hid (HS2.out.ext hx); have HC3 := Lib.hid (own_later HSO.out hx); clear hx hz3))
      clear s0 s1 sl HB2 HS2 HSO
      obtain ⟨s0, s1, _, _, sl⟩ := HS3.out.c2
      go_upto_region 14 with (first | (go_at_call 9; refine Calls.mono (CSG.out _) ?_; rintro e w4 ⟨v4, he4, ho, hx⟩; obtain ⟨bl, hbl⟩ : ∃ bl : Int, bl = ((N * Q : Nat) : Int) - (G : Int) := ⟨_, rfl⟩; rw [← hbl] at he4; subst he4; have HBL := Lib.hid hbl; clear hbl; obtain ⟨A4, c4, rfl, hr4⟩ := own_form ho (by omega); have HR4 := Lib.hid hr4; have HX4 := Lib.hid (HX3.out.trans hx); have HB4 := Lib.hid (HB3.out.ext hx); have HS4 := Lib.hid (HS3.out.ext hx); have HC4 := Lib.hid (own_later HC3.out hx); clear hx ho hr4))
      clear s0 s1 sl HB3 HS3 HC3
      have HE4 := Lib.hid (Ext.refl w4)
      have hN300 : N ≤ 300 := by omega
      have d12 : decide ((12 : Int) < (fs.length : Int)) = false := decide_eq_false (by have := HL.out; omega)
      have dNG : decide (G < N) = false := decide_eq_false (by omega)
      simp only [d12, dNG]
      clear d12 dNG
      go_loopw [14, 15, 16, 17, 18] (fun v14 v15 _ _ _ wr => ∃ i x : Nat, i ≤ N ∧ v15 = .int .i64 (i : Int) ∧ v14 = .int .i64 (x : Int) ∧ Hid (x = 1 + i * Q) ∧ Hid (Ext w4 wr)) (fun _ v15 _ _ _ _ => N - (intOf v15).toNat)
      case atStart => exact ⟨0, 1, Nat.zero_le _, rfl, rfl, Lib.hid (by omega), HE4⟩
      case round =>
        obtain ⟨i, x, hi, rfl, rfl, HX, HE⟩ := hrel
        obtain ⟨s0, s1, _, _, sl⟩ := (HS4.out.ext HE.out).c2
        obtain ⟨b0, b1, b2, bql⟩ := (HB4.out.ext HE.out).c3
        have HR := Lib.hid (RC.ext HR4.out HE.out)
        by_cases hlt : i < N
        case pos =>
          have ii : (i : Int) < (N : Int) := by omega
          -- BEGIN C
          obtain ⟨gb, go, rfl, hgl, g0, g1⟩ := sg_at HR.out hlt
          rw [← HX.out] at g0
          have hxb : x ≤ 20000 := by
            have h1 := HX.out
            have h2 : i * Q ≤ 300 * 64 := Nat.mul_le_mul (by omega) HQ.out.2
            omega
          have HXB := Lib.hid hxb
          have HW := Lib.hid HE.out.size
          go_upto_region 17 with (first | (go_at_call 11; refine Calls.mono (rCopy_any (C' : Int) (R' : Int) A9 c9 cs _ (RC.ext (by obtain ⟨A8, c8, he, hrc⟩ := own_form HC4.out (by have := HCS.out.1; omega); obtain ⟨rfl, _, rfl⟩ := Value.slice.inj he; exact hrc) HE.out) HCS.out.1) ?_; rintro e w5 ⟨A5, c5, rfl, hr5, hx5⟩; have HR5 := Lib.hid hr5; have HX5 := Lib.hid (HE.out.trans hx5); have HSZ := Lib.hid hx5.size; clear hr5 hx5) | (at_builtin; refine list_appendC foldElt rfl (.tmp 81) (.tmp 82) rfl w5.heap.size 0 _ [] rfl (fo_lit0 w5) B fs.length d (foCells fs) rfl (RFo.ext HF.out ((HX4.out.trans HX5.out).trans (by repeat (first | exact Ext.refl _ | assumption | refine Ext.alloc ?_ _ | refine Ext.drew ?_ | refine Ext.drewN ?_ _ | (refine Ext.setCell ?_ (by simp <;> omega) _) | refine Ext.trans ?_ (by assumption))))) (foCells_one fs) (by have := HL.out; omega) (by simp) ?_; intro v6 w6 ho hg6; have HX6 := Lib.hid (own_grown (fo_lit0 w5) hg6 ((Ext.refl w5).alloc _) (Nat.le_refl _)); rw [Nat.zero_add, List.nil_append] at ho; obtain ⟨A6, c6, rfl, h6⟩ := own_form ho (by have := HL.out; omega); have HR6 := Lib.hid h6; clear ho hg6 h6) | (go_at_call 10; refine Calls.mono (CRD0.out A5 A6 c5 c6 _ (HR5.out.ext HX6.out) HR6.out) ?_; rintro e w7 ⟨A7, c7, rfl, hp7, hx7⟩; have HP7 := Lib.hid hp7; have HX7 := Lib.hid ((HX5.out.trans HX6.out).trans hx7); clear hp7 hx7))
          have HR7 := Lib.hid (RC.ext HR4.out HX7.out)
          obtain ⟨gb', go', hge, hgl7, t0, t1⟩ := sg_at HR7.out hlt
          obtain ⟨rfl, rfl⟩ : gb = gb' ∧ go = go' := by injection hge with hge; injection hge with h1 h2; exact ⟨h1, h2⟩
          clear hge g0 g1 s0 s1 sl b0 b1 b2 bql hgl
          rw [← HX.out] at t0
          obtain ⟨s0, s1, _, _, sl⟩ := (HS4.out.ext HX7.out).c2
          have hQ64 : Q ≤ 9223372036854775807 := by omega
          obtain ⟨m, hm⟩ : ∃ m, m = Q * i := ⟨_, rfl⟩
          have hm2 : m ≤ 20000 := by
            have : Q * i ≤ 64 * 300 := Nat.mul_le_mul hQ2 (by omega)
            omega
          have u3 : IntKind.i64.wrap ((Q : Int) * (i : Int)) = (m : Int) := by rw [← Int.natCast_mul, ← hm]; exact IntWalk.i64_in _ (by omega)
          have HM := Lib.hid (show x = 1 + m by rw [HX.out, hm, Nat.mul_comm])
          clear hm
          go_upto_region 20 with fail
          have HE7 := Lib.hid (Ext.refl w7)
          go_loopw [14, 18] (fun v14 v18 wr => ∃ k y : Nat, k ≤ Q ∧ v18 = .int .i64 (k : Int) ∧ v14 = .int .i64 (y : Int) ∧ Hid (y = x + k) ∧ Hid (Ext w7 wr)) (fun _ v18 _ => Q - (intOf v18).toNat)
          case atStart => exact ⟨0, x, Nat.zero_le _, rfl, rfl, Lib.hid (by omega), HE7⟩
          case round =>
            obtain ⟨k, y, hk, rfl, rfl, HY, HE8⟩ := hrel
            clear HE7 s0 s1 sl t0 t1 hgl7
            obtain ⟨s0, s1, _, _, sl⟩ := (HS4.out.ext (HX7.out.trans HE8.out)).c2
            have HR8 := Lib.hid (RC.ext HR7.out HE8.out)
            obtain ⟨gb', go', hge, hgl8, t0, t1⟩ := sg_at HR8.out hlt
            obtain ⟨rfl, rfl⟩ : gb = gb' ∧ go = go' := by injection hge with hge; injection hge with h1 h2; exact ⟨h1, h2⟩
            clear hge
            rw [← HX.out] at t0
            by_cases hkq : k < Q
            case pos =>
              -- BEGIN E
              have ik : (k : Int) < (Q : Int) := by omega
              obtain ⟨pb, po, rfl, hpl, p0, p1⟩ := (HP7.out.ext HE8.out).at_ hkq
              obtain ⟨k1, hk1⟩ : ∃ k1, k1 = k + 1 := ⟨_, rfl⟩
              rw [← hk1] at p0
              have hyb : y = k1 + m := by have h1 := HY.out; have h2 := HM.out; omega
              have hy2 : y ≤ 40000 := by omega
              have u4 : IntKind.i64.wrap ((k1 : Int) + (m : Int)) = (y : Int) := by rw [hyb, Int.natCast_add]; exact IntWalk.i64_in _ (by omega)
              have HK1 := Lib.hid hk1
              clear hk1 hyb
              go_wp2_with fail
              go_quiet (fail)
              go_wp2
              go_roundw
              case rel => exact ⟨k + 1, y + 1, by omega, by go_num, by go_num, Lib.hid (by have := HY.out; omega), Lib.hid (HE8.out.drewN _)⟩
              case measure => simp [intOf]; omega
              -- END E
            case neg =>
              -- BEGIN F
              have ik : ¬ (k : Int) < (Q : Int) := by omega
              obtain rfl : k = Q := by omega
              have hy2 : y ≤ 40000 := by have := HY.out; omega
              have u5 : IntKind.i64.wrap ((y : Int) - 1) = (y : Int) - 1 := IntWalk.i64_in _ (by omega)
              have u6 : IntKind.i64.wrap ((N : Int) - 1) = (N : Int) - 1 := IntWalk.i64_in _ (by omega)
              have HYN : Hid (y = 1 + (i + 1) * k) := Lib.hid (by rw [HY.out, HX.out, Nat.add_mul]; omega)
              by_cases hin : i < N - 1
              case pos =>
                have iin : (i : Int) < (N : Int) - 1 := by omega
                have hmin : ((min ((i + 1) * k) G : Nat) : Int) = (y : Int) - 1 := by
                  have h1 : (i + 1) * k ≤ (N - 1) * k := Nat.mul_le_mul_right _ (by omega)
                  have h2 := HN.out.2.2
                  have h3 := HYN.out
                  omega
                rw [hmin] at t1
                clear hmin hin
                go_wp2
                go_roundw
                case rel => exact ⟨i + 1, y, by omega, by go_num, rfl, HYN, Lib.hid (HX7.out.trans HE8.out)⟩
                case measure => simp [intOf]; omega
              case neg =>
                have iin : ¬ (i : Int) < (N : Int) - 1 := by omega
                clear hin
                go_wp2
                go_roundw
                case rel => exact ⟨i + 1, y, by omega, by go_num, rfl, HYN, Lib.hid (HX7.out.trans HE8.out)⟩
                case measure => simp [intOf]; omega
              -- END F
          -- END C
        case neg =>
          -- BEGIN D
          obtain rfl : i = N := by omega
          have ii : ¬ (i : Int) < (i : Int) := by omega
          clear hlt hi
          obtain ⟨gb, go, rfl, hgl, g0, g1⟩ := sg_at HR.out (k := i - 1) (by omega)
          have hmin : ((min ((i - 1 + 1) * Q) G : Nat) : Int) = (G : Int) := by
            have h2 := HN.out.1
            rw [Nat.sub_add_cancel hN3]
            omega
          rw [hmin] at g1
          have hxb : x ≤ 20000 := by
            have h1 := HX.out
            have h2 : i * Q ≤ 300 * 64 := Nat.mul_le_mul (by omega) HQ.out.2
            omega
          have u5 : IntKind.i64.wrap ((x : Int) - 1) = (x : Int) - 1 := IntWalk.i64_in _ (by omega)
          have hxn : (x : Int) - 1 = ((i * Q : Nat) : Int) := by have h1 := HX.out; omega
          rw [hxn] at u5
          have u6 : IntKind.i64.wrap ((i : Int) - 1) = ((i - 1 : Nat) : Int) := by
            have e : (i : Int) - 1 = ((i - 1 : Nat) : Int) := by omega
            rw [e]; exact IntWalk.i64_in _ (by omega)
          have hnb : i * Q ≤ 20000 := by have h2 : i * Q ≤ 300 * 64 := Nat.mul_le_mul (by omega) HQ.out.2; omega
          have u7 : IntKind.i64.wrap ((G : Int) + bl) = (x : Int) - 1 := by
            have e : (G : Int) + bl = (x : Int) - 1 := by have h1 := HBL.out; omega
            rw [e]; exact IntWalk.i64_in _ (by omega)
          have u8 : IntKind.i64.wrap ((x : Int) - 1) = (x : Int) - 1 := IntWalk.i64_in _ (by omega)
          have iN0 : (0 : Int) < (i : Int) := by omega
          have HXN := Lib.hid hxn
          clear u5 hxn hmin
          go_wp2
          refine bodyPost_ret (v := .bool true) (by simp [results, Try.results3, go_sem]) rfl (Ret.mk' rfl (HX4.out.trans HE.out))
          -- END D
      -- END B
end Go.Proofs.Ytniiahddpdiocaa
