/-
  Walks of the reference: Folded, CheckFolds.
-/
import Derived.Test.YtniiahddpdiocaaFoldR6
namespace Go.Proofs.Ytniiahddpdiocaa
open Go.RowKit
attribute [local go_sem ↓] Go.wp_at_zero Go.wp_at_succ
attribute [local go_sem] stateAt vu known List.map_cons List.map_nil Option.getD_some

/-- A heap in cells of a block. -/
def HvI0 (w0 : World) (mb C R B : Nat) (W : World) : Prop := ∃ A d rows, rows.length = R * C ∧ HO W 0 B (.slice A (List.length rows) d) rows ∧ Blk W mb 94 #[.int .i64 (C : Int), .int .i64 (R : Int), .slice A (List.length rows) d] ∧ Ext w0 W
theorem HvI0.of {w0 W : World} {mb C R B : Nat} (h : HvIn w0 mb C R B W) : HvI0 w0 mb C R B W := by
  obtain ⟨A, d, rows, h1, h2, h3, h4⟩ := h
  exact ⟨A, d, rows, h1, h2.mono (Nat.zero_le _), h3, h4⟩
/-- The answer of the reference's Folded. -/
def RetRF (C R : Nat) (fs : List (Int × Int)) (w : World) (e : Ending) (w' : World) : Prop := ∃ (Cn Rn : Nat) (A : Option Addr) (d m i : Nat) (z : Int), e = .returned (.tuple #[.agg #[.int .i64 (Cn : Int), .int .i64 (Rn : Int), .slice A m d], .int .i64 (i : Int), .int .i64 z]) ∧ Ext w w' ∧ m ≤ 64 ∧
  ((i < fs.length ∧ (∀ j, j < i → errAt C R fs j = 0) ∧ z = errAt C R fs i ∧ z ≠ 0) ∨ ((∀ j, j < fs.length → errAt C R fs j = 0) ∧ i = 0 ∧ z = 0 ∧ m = (sideTo C R fs fs.length).2 * (sideTo C R fs fs.length).1))
set_option maxRecDepth 100000 in
set_option maxHeartbeats 8000000 in
theorem rFolded_any (C R : Nat) (A : Option Addr) (c : Nat) (fs : List (Int × Int)) (w : World) (h : RFo w A fs) (hI : ∀ k, k < fs.length → I64 (fs.getD k (0, 0)).2) (c1 : 1 ≤ C) (r1 : 1 ≤ R) (c8 : C ≤ 8) (r8 : R ≤ 8) (hl : fs.length ≤ 12) :
    Calls Try.prog 32 #[.int .i64 (C : Int), .int .i64 (R : Int), .slice A fs.length c] w (RetRF C R fs w) := by
  have HG := Lib.hid (pile_good c1 r1 c8 r8 fs)
  have HF := Lib.hid h; have HI := Lib.hid hI
  have CFL := Lib.hid fun W => rFlat_any C R W c8 r8
  have hbig : fs.length ≤ 9223372036854775807 := by omega
  clear h hI
  have HB0 := Lib.hid (hd_zero w)
  have HX0 : Hid (Ext w (w.alloc (.cells #[.int .i64 0, .int .i64 0, .slice none 0 0] 94))) := Lib.hid (by repeat (first | exact Ext.refl _ | assumption | refine Ext.alloc ?_ _ | refine Ext.drew ?_ | refine Ext.drewN ?_ _ | (refine Ext.setCell ?_ (by simp <;> omega) _) | refine Ext.trans ?_ (by assumption)))
  have HQW : Hid (w.heap.size ≤ w.heap.size) := Lib.hid (Nat.le_refl _)
  go_enter Try.func32, Try.ntmps32
  go_wp2_with (first | (go_at_call 57; refine Calls.mono (CFL.out _) ?_; rintro e w1 ⟨B9, d9, rows9, rfl, hln, ho, hx⟩; have HOP := Lib.hid ho; have HX1 := Lib.hid hx; have HLN := Lib.hid hln; clear ho hx hln))
  generalize (w.alloc (.cells #[.int .i64 0, .int .i64 0, .slice none 0 0] 94)) = w0 at *
  have HS0 : Hid (HvI0 w0 w1.heap.size (sideTo C R fs 0).1 (sideTo C R fs 0).2 (2 ^ 0) (w1.alloc (.cells #[.int .i64 (C : Int), .int .i64 (R : Int), .slice B9 rows9.length d9] 94))) := Lib.hid
    ⟨B9, d9, rows9, HLN.out, (HOP.out.mono (Nat.zero_le _)).ext ((Ext.refl w1).alloc _), Blk.new _ _ _, HX1.out.alloc _⟩
  have HMB : Hid (w0.heap.size ≤ w1.heap.size) := Lib.hid HX1.out.size
  generalize (w1.alloc (.cells #[.int .i64 (C : Int), .int .i64 (R : Int), .slice B9 rows9.length d9] 94)) = w2 at *
  generalize w1.heap.size = mb at *
  obtain ⟨qb, hqb⟩ : ∃ qb, w.heap.size = qb := ⟨_, rfl⟩
  rw [hqb] at HB0 HQW ⊢
  have HQE := Lib.hid hqb
  clear hqb HOP HX1 HLN
  go_loopw [10, 11] (fun v10 _ wr => ∃ i : Nat, i ≤ fs.length ∧ v10 = .int .i64 (i : Int) ∧ Hid (HvI0 w0 mb (sideTo C R fs i).1 (sideTo C R fs i).2 (2 ^ i) wr) ∧ Hid (∀ j, j < i → errAt C R fs j = 0)) (fun v10 _ _ => fs.length - (intOf v10).toNat)
  case atStart => exact ⟨0, Nat.zero_le _, rfl, HS0, Lib.hid fun j hj => absurd hj (by omega)⟩
  case round =>
    clear HS0
    obtain ⟨i, hi, rfl, HS, HE⟩ := hrel
    obtain ⟨hgp, hgC, hgR⟩ := HG.out i HE.out
    have hs8 : (sideTo C R fs i).1 ≤ 8 := by rw [← hgC]; exact hgp.c8
    have ht8 : (sideTo C R fs i).2 ≤ 8 := by rw [← hgR]; exact hgp.r8
    clear hgp hgC hgR
    obtain ⟨A1, d1, rows1, hln, ho, hbk, hx⟩ := HS.out
    have HLN := Lib.hid hln; have HOI := Lib.hid ho; have HBK := Lib.hid hbk; have HXI := Lib.hid hx
    clear hln ho hbk hx HS
    obtain ⟨m0, m1, m2, ml⟩ := HBK.out.c3
    have hr64 : rows1.length ≤ 64 := by rw [HLN.out]; exact Nat.mul_le_mul ht8 hs8
    by_cases hlt : i < fs.length
    case pos =>
      have ii : (i : Int) < (fs.length : Int) := by omega
      obtain ⟨b, off, rfl, hbw0, c0, c1⟩ := HF.out.at_ hlt
      have HI2 := Lib.hid (HI.out i hlt)
      have hee : errAt C R fs i = foldE (sideTo C R fs i).1 (sideTo C R fs i).2 (fs.getD i (0, 0)).1 (fs.getD i (0, 0)).2 := rfl
      have HSD : Hid (sideTo C R fs (i + 1) = (foldC (sideTo C R fs i).1 (fs.getD i (0, 0)).1 (fs.getD i (0, 0)).2, foldR (sideTo C R fs i).2 (fs.getD i (0, 0)).1 (fs.getD i (0, 0)).2)) := Lib.hid rfl
      have HEE := Lib.hid hee
      have HZ : ∃ z, errAt C R fs i = z := ⟨_, rfl⟩
      obtain ⟨z, hz⟩ := HZ
      rw [hee] at hz
      have hBp : 2 ^ i ≤ 4096 := by
        have : 2 ^ i ≤ 2 ^ 12 := Nat.pow_le_pow_right (by omega) (by omega)
        omega
      generalize sideTo C R fs i = sd at *
      obtain ⟨Ci, Ri⟩ := sd
      generalize fs.getD i (0, 0) = fo at *
      obtain ⟨kk, nn⟩ := fo
      simp only at *
      have CFE : Hid (∀ W, Calls Try.prog 58 #[.int .i64 (Ci : Int), .int .i64 (Ri : Int), .agg #[.int .i64 kk, .int .i64 nn]] W (Ret (.int .i64 z) W)) := Lib.hid fun W => by
        have := rFoldErr_any Ci Ri kk nn W hs8 ht8 HI2.out
        rwa [hz] at this
      have HZE := Lib.hid hz
      have HCE0 := Lib.hid c0; have HCE1 := Lib.hid c1; have HBW := Lib.hid hbw0
      have HXW := Lib.hid (HX0.out.trans HXI.out)
      have e0 := (HXW.out.cell (p := ⟨b, off + i * 2, none⟩) hbw0).trans c0
      have e1 := (HXW.out.cell (p := ⟨b, off + i * 2 + 1, none⟩) hbw0).trans c1
      have ebw := Nat.lt_of_lt_of_le hbw0 HXW.out.size
      clear c0 c1 hbw0 hee hz
      go_upto_region 5 with fail
      refine wp_region_rel [some (.pointer (some ⟨mb, 0, none⟩)), some (.int .i64 (Ci : Int)), some (.pointer (some ⟨mb, 1, none⟩)), some (.int .i64 (Ri : Int)), some (.slice (some ⟨b, off, none⟩) fs.length c), some (.int .i64 (i : Int)), some (.pointer (some ⟨b, off + i * 2, none⟩)), some (.agg #[.int .i64 kk, .int .i64 nn]), some (.int .i64 z), some (.int .i64 z)] (fun k v W => True) wr (by kernel_rfl) (by kernel_rfl) rfl (fun k v W W' h hx => trivial) (Ext.refl _) ⟨?_, ?_, ?_, ?_, ?_, ?_, ?_, ?_, ?_, ?_, trivial⟩ ?_
      · intro U W hx hR
        clear hR
        skip
        refine StepZ.go rfl ?_
        go_simp
        exact ⟨(by repeat (first | exact Ext.refl _ | assumption | refine Ext.alloc ?_ _ | refine Ext.drew ?_ | refine Ext.drewN ?_ _ | (refine Ext.setCell ?_ (by simp <;> omega) _) | refine Ext.trans ?_ (by assumption))), gives_k (by kernel_rfl)⟩
      · intro U W hx hR
        clear hR
        obtain ⟨y0, y1, y2, yl⟩ := (HBK.out.ext hx).c3
        refine StepZ.go rfl ?_
        go_simp
        exact ⟨(by repeat (first | exact Ext.refl _ | assumption | refine Ext.alloc ?_ _ | refine Ext.drew ?_ | refine Ext.drewN ?_ _ | (refine Ext.setCell ?_ (by simp <;> omega) _) | refine Ext.trans ?_ (by assumption))), gives_k (by kernel_rfl)⟩
      · intro U W hx hR
        clear hR
        skip
        refine StepZ.go rfl ?_
        go_simp
        exact ⟨(by repeat (first | exact Ext.refl _ | assumption | refine Ext.alloc ?_ _ | refine Ext.drew ?_ | refine Ext.drewN ?_ _ | (refine Ext.setCell ?_ (by simp <;> omega) _) | refine Ext.trans ?_ (by assumption))), gives_k (by kernel_rfl)⟩
      · intro U W hx hR
        clear hR
        obtain ⟨y0, y1, y2, yl⟩ := (HBK.out.ext hx).c3
        refine StepZ.go rfl ?_
        go_simp
        exact ⟨(by repeat (first | exact Ext.refl _ | assumption | refine Ext.alloc ?_ _ | refine Ext.drew ?_ | refine Ext.drewN ?_ _ | (refine Ext.setCell ?_ (by simp <;> omega) _) | refine Ext.trans ?_ (by assumption))), gives_k (by kernel_rfl)⟩
      · intro U W hx hR
        clear hR
        skip
        refine StepZ.go rfl ?_
        go_simp
        exact ⟨(by repeat (first | exact Ext.refl _ | assumption | refine Ext.alloc ?_ _ | refine Ext.drew ?_ | refine Ext.drewN ?_ _ | (refine Ext.setCell ?_ (by simp <;> omega) _) | refine Ext.trans ?_ (by assumption))), gives_k (by kernel_rfl)⟩
      · intro U W hx hR
        clear hR
        skip
        refine StepZ.go rfl ?_
        go_simp
        exact ⟨(by repeat (first | exact Ext.refl _ | assumption | refine Ext.alloc ?_ _ | refine Ext.drew ?_ | refine Ext.drewN ?_ _ | (refine Ext.setCell ?_ (by simp <;> omega) _) | refine Ext.trans ?_ (by assumption))), gives_k (by kernel_rfl)⟩
      · intro U W hx hR
        clear hR
        skip
        refine StepZ.go rfl ?_
        go_simp
        exact ⟨(by repeat (first | exact Ext.refl _ | assumption | refine Ext.alloc ?_ _ | refine Ext.drew ?_ | refine Ext.drewN ?_ _ | (refine Ext.setCell ?_ (by simp <;> omega) _) | refine Ext.trans ?_ (by assumption))), gives_k (by kernel_rfl)⟩
      · intro U W hx hR
        clear hR
        have y0 := (hx.cell (p := ⟨b, off + i * 2, none⟩) ebw).trans e0; have y1 := (hx.cell (p := ⟨b, off + i * 2 + 1, none⟩) ebw).trans e1; have yl := Nat.lt_of_lt_of_le ebw hx.size
        refine StepZ.go rfl ?_
        go_simp
        exact ⟨(by repeat (first | exact Ext.refl _ | assumption | refine Ext.alloc ?_ _ | refine Ext.drew ?_ | refine Ext.drewN ?_ _ | (refine Ext.setCell ?_ (by simp <;> omega) _) | refine Ext.trans ?_ (by assumption))), gives_k (by kernel_rfl)⟩
      · intro U W hx hR
        clear hR
        refine StepZ.go rfl ?_
        go_simp
        refine Calls.mono (CFE.out _) ?_
        rintro e w' ⟨rfl, hb⟩
        exact ⟨_, rfl, hb, gives_k (by kernel_rfl)⟩
      · intro U W hx hR
        clear hR
        skip
        refine StepZ.go rfl ?_
        go_simp
        exact ⟨(by repeat (first | exact Ext.refl _ | assumption | refine Ext.alloc ?_ _ | refine Ext.drew ?_ | refine Ext.drewN ?_ _ | (refine Ext.setCell ?_ (by simp <;> omega) _) | refine Ext.trans ?_ (by assumption))), gives_k (by kernel_rfl)⟩
      · intro U W hx hR
        clear hR
        simp only [putAll, vu, Act.put, List.setIfInBounds_toArray, List.set_cons_zero, List.set_cons_succ]
        have HXJ := Lib.hid (HXI.out.trans hx)
        have HBJ := Lib.hid (HBK.out.ext hx)
        have HOJ := Lib.hid (HOI.out.ext hx)
        clear hx e0 e1 ebw m0 m1 m2 ml HBK HXI HOI HXW
        obtain ⟨m0, m1, m2, ml⟩ := HBJ.out.c3
        by_cases he : z = 0
        case neg =>
          have e9 : (z != 0) = true := by simpa using he
          have HNE := Lib.hid he
          have HQJ := Lib.hid (HB0.out.ext HXJ.out)
          obtain ⟨r0, r1, r2, rl⟩ := HQJ.out.c3
          have F := HQJ.out.frozen
          clear he
          go_wp2
          refine bodyPost_ret (v := .tuple #[.agg #[.int .i64 (Ci : Int), .int .i64 (Ri : Int), .slice A1 rows1.length d1], .int .i64 (i : Int), .int .i64 z]) (by simp [results, Try.results32, go_sem, r0, r1, r2]) rfl ⟨Ci, Ri, A1, d1, rows1.length, i, z, rfl, setCell3 (HX0.out.trans HXJ.out) (by rw [HQE.out]; exact Nat.le_refl _) _ _ _, hr64, .inl ⟨hlt, HE.out, by rw [HEE.out, HZE.out], HNE.out⟩⟩
        case pos =>
          subst he
          have HE2 : Hid (∀ j, j < i + 1 → errAt C R fs j = 0) := Lib.hid fun j hj => by
            by_cases h : j < i
            · exact HE.out j h
            · obtain rfl : j = i := by omega
              rw [HEE.out, HZE.out]
          have CFO := Lib.hid fun W h => rFold_any Ci Ri (2 ^ i) A1 d1 rows1 kk nn W hs8 ht8 (by omega) h HLN.out HZE.out
          have HP2 : Hid (2 ^ (i + 1) = 2 * 2 ^ i) := Lib.hid (by rw [Nat.pow_succ, Nat.mul_comm])
          unfold HV at CFO
          generalize 2 ^ i = Bi at *
          generalize foldC Ci kk nn = Cj at *
          generalize foldR Ri kk nn = Rj at *
          go_upto_region 8 with fail
          have HQ0 : Hid (QG W (fun _ x W' => HvAt W.heap.size Cj Rj (2 * Bi) x W') (HvI0 w0 mb Cj Rj (2 * Bi)) [5] 6 [.agg #[.int .i64 (Ci : Int), .int .i64 (Ri : Int), .slice A1 rows1.length d1], .slice (some ⟨b, off, none⟩) fs.length c, .int .i64 (i : Int), .pointer (some ⟨b, off + i * 2, none⟩), .agg #[.int .i64 kk, .int .i64 nn], undef, undef] (List.replicate 7 none) W.drew) := Lib.hid (QG.start (Ext.refl W).drew)
          refine wp_region_q (QG W (fun _ x W' => HvAt W.heap.size Cj Rj (2 * Bi) x W') (HvI0 w0 mb Cj Rj (2 * Bi)) [5] 6 _) (by kernel_rfl) (by kernel_rfl) HQ0.out ⟨?_, ?_, ?_, ?_, ?_, ?_, ?_, trivial⟩ ?_
          · intro V W' hl hn hd hX hC; have hq : V.length = 7 := hl; obtain ⟨v0, v1, v2, v3, v4, v5, v6, hV⟩ := qlen7 hq; subst hV; obtain rfl : v0 = none := hn
            have hl9 : v6 = none := none_of (fun e => hC 5 _ rfl (hC 6 _ rfl e 5 (by decide)) 0 (by decide)) rfl
            subst hl9
            obtain ⟨k0, k1, k2, kl⟩ := (HBJ.out.ext (hX.a rfl)).c3
            clear hl hd hC hq
            refine StepZ.go rfl ?_
            go_simp
            exact hX.known 0 (by decide) (by decide) (by decide)
          · intro V W' hl hn hd hX hC; have hq : V.length = 7 := hl; obtain ⟨v0, v1, v2, v3, v4, v5, v6, hV⟩ := qlen7 hq; subst hV; obtain rfl : v1 = none := hn
            clear hl hd hC hq
            refine StepZ.go rfl ?_
            go_simp
            exact hX.known 1 (by decide) (by decide) (by decide)
          · intro V W' hl hn hd hX hC; have hq : V.length = 7 := hl; obtain ⟨v0, v1, v2, v3, v4, v5, v6, hV⟩ := qlen7 hq; subst hV; obtain rfl : v2 = none := hn
            clear hl hd hC hq
            refine StepZ.go rfl ?_
            go_simp
            exact hX.known 2 (by decide) (by decide) (by decide)
          · intro V W' hl hn hd hX hC; have hq : V.length = 7 := hl; obtain ⟨v0, v1, v2, v3, v4, v5, v6, hV⟩ := qlen7 hq; subst hV; obtain rfl : v3 = none := hn
            have g1 : v1.isSome = true := hd 1 (by decide); obtain ⟨u1, rfl⟩ := Option.isSome_iff_exists.1 g1; clear g1; obtain rfl := hX.kn 1 _ (by decide) (by decide) rfl; have g2 : v2.isSome = true := hd 2 (by decide); obtain ⟨u2, rfl⟩ := Option.isSome_iff_exists.1 g2; clear g2; obtain rfl := hX.kn 2 _ (by decide) (by decide) rfl
            clear hl hd hC hq
            refine StepZ.go rfl ?_
            go_simp
            exact hX.known 3 (by decide) (by decide) (by decide)
          · intro V W' hl hn hd hX hC; have hq : V.length = 7 := hl; obtain ⟨v0, v1, v2, v3, v4, v5, v6, hV⟩ := qlen7 hq; subst hV; obtain rfl : v4 = none := hn
            have hl9 : v6 = none := none_of (fun e => hC 5 _ rfl (hC 6 _ rfl e 5 (by decide)) 4 (by decide)) rfl
            subst hl9
            have hxw := (HX0.out.trans HXJ.out).trans (hX.a rfl)
            have y0 := (hxw.cell (p := ⟨b, off + i * 2, none⟩) HBW.out).trans HCE0.out
            have y1 := (hxw.cell (p := ⟨b, off + i * 2 + 1, none⟩) HBW.out).trans HCE1.out
            have yl := Nat.lt_of_lt_of_le HBW.out hxw.size
            have g3 : v3.isSome = true := hd 3 (by decide); obtain ⟨u3, rfl⟩ := Option.isSome_iff_exists.1 g3; clear g3; obtain rfl := hX.kn 3 _ (by decide) (by decide) rfl
            clear hl hd hC hq
            refine StepZ.go rfl ?_
            go_simp
            exact hX.known 4 (by decide) (by decide) (by decide)
          · intro V W' hl hn hd hX hC; have hq : V.length = 7 := hl; obtain ⟨v0, v1, v2, v3, v4, v5, v6, hV⟩ := qlen7 hq; subst hV; obtain rfl : v5 = none := hn
            have hl9 : v6 = none := none_of (fun e => hC 6 _ rfl e 5 (by decide)) rfl
            subst hl9
            have g0 : v0.isSome = true := hd 0 (by decide); obtain ⟨u0, rfl⟩ := Option.isSome_iff_exists.1 g0; clear g0; obtain rfl := hX.kn 0 _ (by decide) (by decide) rfl; have g4 : v4.isSome = true := hd 4 (by decide); obtain ⟨u4, rfl⟩ := Option.isSome_iff_exists.1 g4; clear g4; obtain rfl := hX.kn 4 _ (by decide) (by decide) rfl
            have hsz := (hX.a rfl).size
            have CFW := Lib.hid (CFO.out _ (HOJ.out.ext (hX.a rfl)))
            clear hl hd hC hq
            refine StepZ.go rfl ?_
            go_simp
            refine Calls.mono CFW.out ?_
            rintro e w' ⟨B9, d9, rows9, rfl, hln, ho, hx⟩
            exact ⟨_, rfl, hX.call 5 (by decide) (by decide) rfl hx (fun k x h => HvAt.ext h hx) _ ⟨B9, d9, rows9, rfl, hln, ho.mono hsz⟩⟩
          · intro V W' hl hn hd hX hC; have hq : V.length = 7 := hl; obtain ⟨v0, v1, v2, v3, v4, v5, v6, hV⟩ := qlen7 hq; subst hV; obtain rfl : v6 = none := hn
            have g5 : v5.isSome = true := hd 5 (by decide)
            obtain ⟨u5, rfl⟩ := Option.isSome_iff_exists.1 g5
            obtain ⟨B1, e1, rows2, hp1, hp2, hp3⟩ : HvAt W.heap.size Cj Rj (2 * Bi) u5 W' := hX.pc 5 (by decide) _ rfl rfl
            subst hp1
            have hbq := HBJ.out.ext (hX.a rfl)
            have hfin := HvIn.of HMB.out (HXJ.out.trans (hX.a rfl)) hbq hp2 hp3 HBJ.out.lt
            have hst := fun y => hX.store (HvI0.of hfin) y
            obtain ⟨k0, k1, k2, kl⟩ := hbq.c3
            have F := hbq.frozen
            clear hl hd hC hq hp2 hp3 hbq hfin
            refine StepZ.go rfl ?_
            go_simp
            exact ⟨rfl, hst undef⟩
          · intro V W' hl hV hX
            have hq : V.length = 7 := hl
            obtain ⟨v0, v1, v2, v3, v4, v5, v6, hW⟩ := qlen7 hq
            subst hW
            have g6 : v6.isSome = true := hV 6 (by decide)
            obtain ⟨u6, rfl⟩ := Option.isSome_iff_exists.1 g6
            have HD := Lib.hid (hX.d _ rfl)
            clear hl hV hq g6 hX HQ0 m0 m1 m2 ml
            simp only [putAll, known, List.map_cons, List.map_nil, Act.put, List.setIfInBounds_toArray, List.set_cons_zero, List.set_cons_succ, Option.getD_some]
            go_wp2
            go_roundw
            case rel => exact ⟨i + 1, by omega, by go_num, Lib.hid (by rw [HSD.out, HP2.out]; exact HD.out), HE2⟩
            case measure => simp [intOf]; omega
    case neg =>
      obtain rfl : i = fs.length := by omega
      have iF : ¬ (fs.length : Int) < (fs.length : Int) := by omega
      have HQJ := Lib.hid (HB0.out.ext HXI.out)
      obtain ⟨r0, r1, r2, rl⟩ := HQJ.out.c3
      have F := HQJ.out.frozen
      clear hi hlt
      generalize hsd : sideTo C R fs fs.length = sd at *
      have HSD := Lib.hid hsd
      clear hsd
      obtain ⟨Ci, Ri⟩ := sd
      simp only at *
      go_wp2
      refine bodyPost_ret (v := .tuple #[.agg #[.int .i64 (Ci : Int), .int .i64 (Ri : Int), .slice A1 rows1.length d1], .int .i64 0, .int .i64 0]) (by simp [results, Try.results32, go_sem, r0, r1, r2]) rfl ⟨Ci, Ri, A1, d1, rows1.length, 0, 0, rfl, setCell3 (HX0.out.trans HXI.out) (by rw [HQE.out]; exact Nat.le_refl _) _ _ _, hr64, .inr ⟨HE.out, rfl, rfl, by rw [HSD.out]; exact HLN.out⟩⟩
/-- Right folds of a right sheet. -/
def GoodF (C R : Int) (fs : List (Int × Int)) : Prop := sheetE C R = 0 ∧ (∀ j, j < fs.length → errAt C.toNat R.toNat fs j = 0) ∧ (sideTo C.toNat R.toNat fs fs.length).2 * (sideTo C.toNat R.toNat fs fs.length).1 = 1
def RetCk (P : Prop) (w : World) (e : Ending) (w' : World) : Prop := ∃ i z : Int, e = .returned (.tuple #[.int .i64 i, .int .i64 z]) ∧ Ext w w' ∧ (z = 0 ↔ P)
set_option maxRecDepth 100000 in
set_option maxHeartbeats 8000000 in
theorem rCheckFolds_any (C R : Int) (A : Option Addr) (c : Nat) (fs : List (Int × Int)) (w : World) (h : RFo w A fs) (hI : ∀ k, k < fs.length → I64 (fs.getD k (0, 0)).2) (hl : fs.length ≤ 12) :
    Calls Try.prog 8 #[.agg #[.int .i64 C, .int .i64 R], .slice A fs.length c] w (RetCk (GoodF C R fs) w) := by
  have hbig : fs.length ≤ 9223372036854775807 := by omega
  by_cases hz : sheetE C R = 0
  case neg =>
    have e0 : (sheetE C R != 0) = true := by simpa using hz
    have CS := Lib.hid fun W => rCheckSheet_any C R W
    have HN : Hid (¬ GoodF C R fs) := Lib.hid fun hg => hz hg.1
    have HZ := Lib.hid hz
    clear h hI hz
    generalize sheetE C R = z at *
    go_enter Try.func8, Try.ntmps8
    go_wp2_with (first | (go_at_call 31; refine Calls.mono (CS.out _) ?_; rintro e w1 ⟨rfl, rfl⟩))
    refine bodyPost_ret (v := .tuple #[.int .i64 0, .int .i64 z]) (by simp [results, Try.results8, go_sem]) rfl ⟨0, z, rfl, (by repeat (first | exact Ext.refl _ | assumption | refine Ext.alloc ?_ _ | refine Ext.drew ?_ | refine Ext.drewN ?_ _ | (refine Ext.setCell ?_ (by simp <;> omega) _) | refine Ext.trans ?_ (by assumption))), fun e => absurd e HZ.out, fun hg => absurd hg HN.out⟩
  case pos =>
    have CS : Hid (∀ W, Calls Try.prog 31 #[.int .i64 C, .int .i64 R] W (Same (.int .i64 0) W)) := Lib.hid fun W => by
      have := rCheckSheet_any C R W
      rwa [hz] at this
    obtain ⟨C', R', rfl, rfl, c1, c8, r1, r8, hrc⟩ := sheetE_zero hz
    have CF := Lib.hid fun W h => rFolded_any C' R' A c fs W h hI c1 r1 c8 r8 hl
    have HF := Lib.hid h
    have HGD : Hid (GoodF (C' : Int) (R' : Int) fs ↔ (∀ j, j < fs.length → errAt C' R' fs j = 0) ∧ (sideTo C' R' fs fs.length).2 * (sideTo C' R' fs fs.length).1 = 1) := Lib.hid (by
      unfold GoodF
      rw [Int.toNat_natCast, Int.toNat_natCast]
      exact ⟨fun h => h.2, fun h => ⟨hz, h⟩⟩)
    have it : ¬ (12 : Int) < (fs.length : Int) := by omega
    clear h hI hz
    go_enter Try.func8, Try.ntmps8
    go_upto_region 7 with (first | (go_at_call 31; refine Calls.mono (CS.out _) ?_; rintro e w1 ⟨rfl, rfl⟩) | (go_at_call 32; refine Calls.mono (CF.out _ (HF.out.ext (by repeat (first | exact Ext.refl _ | assumption | refine Ext.alloc ?_ _ | refine Ext.drew ?_ | refine Ext.drewN ?_ _ | (refine Ext.setCell ?_ (by simp <;> omega) _) | refine Ext.trans ?_ (by assumption))))) ?_; rintro e w1 ⟨Cn, Rn, A1, d1, m, i, z, rfl, hx, hm, hcs⟩; have HX1 := Lib.hid (Ext.trans (by repeat (first | exact Ext.refl _ | assumption | refine Ext.alloc ?_ _ | refine Ext.drew ?_ | refine Ext.drewN ?_ _ | (refine Ext.setCell ?_ (by simp <;> omega) _) | refine Ext.trans ?_ (by assumption))) hx : Ext w w1); have HCS := Lib.hid hcs; clear hx hcs))
    have hmb : m ≤ 9223372036854775807 := by omega
    by_cases hz : z = 0
    case neg =>
      have e0 : (z != 0) = true := by simpa using hz
      have HZ := Lib.hid hz
      clear hz
      go_wp2
      refine bodyPost_ret (v := .tuple #[.int .i64 (i : Int), .int .i64 z]) (by simp [results, Try.results8, go_sem]) rfl ⟨(i : Int), z, rfl, HX1.out.trans (by repeat (first | exact Ext.refl _ | assumption | refine Ext.alloc ?_ _ | refine Ext.drew ?_ | refine Ext.drewN ?_ _ | (refine Ext.setCell ?_ (by simp <;> omega) _) | refine Ext.trans ?_ (by assumption))), fun e => absurd e HZ.out, fun hg => ?_⟩
      rcases HCS.out with ⟨h1, h2, h3, h4⟩ | ⟨h1, h2, h3, h4⟩
      · have := (HGD.out.1 hg).1 i h1
        rw [h3]; exact this
      · exact h3
    case pos =>
      subst hz
      have HCM : Hid ((∀ j, j < fs.length → errAt C' R' fs j = 0) ∧ m = (sideTo C' R' fs fs.length).2 * (sideTo C' R' fs fs.length).1) := Lib.hid (by
        rcases HCS.out with ⟨h1, h2, h3, h4⟩ | ⟨h1, h2, h3, h4⟩
        · exact absurd rfl h4
        · exact ⟨h1, h4⟩)
      by_cases hm1 : m = 1
      case pos =>
        have e1 : ((m : Int) != 1) = false := by simp; omega
        have HM1 := Lib.hid hm1
        clear hm1
        go_wp2
        refine bodyPost_ret (v := .tuple #[.int .i64 0, .int .i64 0]) (by simp [results, Try.results8, go_sem]) rfl ⟨0, 0, rfl, HX1.out.trans (by repeat (first | exact Ext.refl _ | assumption | refine Ext.alloc ?_ _ | refine Ext.drew ?_ | refine Ext.drewN ?_ _ | (refine Ext.setCell ?_ (by simp <;> omega) _) | refine Ext.trans ?_ (by assumption))), fun _ => HGD.out.2 ⟨HCM.out.1, by rw [← HCM.out.2, HM1.out]⟩, fun _ => rfl⟩
      case neg =>
        have e1 : ((m : Int) != 1) = true := by simp; omega
        have HM1 := Lib.hid hm1
        clear hm1
        go_wp2
        refine bodyPost_ret (v := .tuple #[.int .i64 (fs.length : Int), .int .i64 25]) (by simp [results, Try.results8, go_sem]) rfl ⟨(fs.length : Int), 25, rfl, HX1.out.trans (by repeat (first | exact Ext.refl _ | assumption | refine Ext.alloc ?_ _ | refine Ext.drew ?_ | refine Ext.drewN ?_ _ | (refine Ext.setCell ?_ (by simp <;> omega) _) | refine Ext.trans ?_ (by assumption))), fun e => absurd e (by decide), fun hg => ?_⟩
        have h2 := (HGD.out.1 hg).2
        rw [← HCM.out.2] at h2
        exact absurd h2 HM1.out
end Go.Proofs.Ytniiahddpdiocaa
