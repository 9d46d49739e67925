/-
  Walks of the reference: foldLeft, foldUp.
-/
import Derived.Test.YtniiahddpdiocaaFoldR2
namespace Go.Proofs.Ytniiahddpdiocaa
open Go.RowKit

set_option maxRecDepth 100000 in
set_option maxHeartbeats 8000000 in
theorem foldLeft_any (C R B n q : Nat) (A : Option Addr) (hd : Nat) (rs : List SLf) (w : World) (hC : C ≤ 8) (hR : R ≤ 8) (hB : B ≤ 40000) (h : HO w 0 B (.slice A rs.length hd) rs) (hl : rs.length = R * C) (hq : q + n = C) (hn : n ≤ q) :
    Calls Try.prog 75 #[HV C R A rs.length hd, .int .i64 (n : Int)] w (RetH q R (2 * B) w) := by
  have hRC : R * C ≤ 64 := Nat.mul_le_mul hR hC
  have hORC : R * q ≤ 64 := Nat.mul_le_mul (show R ≤ 8 by omega) (show q ≤ 8 by omega)
  have HH := Lib.hid h
  clear h
  have HL := Lib.hid hl
  have hrn : rs.length ≤ 1000 := by omega
  have hbr : rs.length ≤ 9223372036854775807 := by omega
  have HBB := Lib.hid hB
  clear hl hB
  have HB1 := Lib.hid ((Blk.new w 94 #[.int .i64 (C : Int), .int .i64 (R : Int), .slice A rs.length hd]).alloc (.cells #[.int .i64 0, .int .i64 0, .slice none 0 0] 94))
  have HB0 := Lib.hid (Blk.new1 w (.cells #[.int .i64 (C : Int), .int .i64 (R : Int), .slice A rs.length hd] 94) 94 #[.int .i64 0, .int .i64 0, .slice none 0 0])
  have HX0 : Hid (Ext w ((w.alloc (.cells #[.int .i64 (C : Int), .int .i64 (R : Int), .slice A rs.length hd] 94)).alloc (.cells #[.int .i64 0, .int .i64 0, .slice none 0 0] 94))) := Lib.hid (by repeat (first | exact Ext.refl _ | assumption | refine Ext.alloc ?_ _ | refine Ext.drew ?_ | refine Ext.drewN ?_ _ | (refine Ext.setCell ?_ (by simp <;> omega) _) | refine Ext.trans ?_ (by assumption)))
  have HG0 : Hid (Hw ((w.alloc (.cells #[.int .i64 (C : Int), .int .i64 (R : Int), .slice A rs.length hd] 94)).alloc (.cells #[.int .i64 0, .int .i64 0, .slice none 0 0] 94)) (((w.alloc (.cells #[.int .i64 (C : Int), .int .i64 (R : Int), .slice A rs.length hd] 94)).alloc (.cells #[.int .i64 0, .int .i64 0, .slice none 0 0] 94)).alloc (.cells #[.int .i64 (q : Int), .int .i64 (R : Int), .slice none 0 0] 94)) (w.heap.size + 1 + 1) q R (2 * B) (.slice none 0 0) (.slice none 0 0) []) := Lib.hid
    ⟨(by repeat (first | exact Ext.refl _ | assumption | refine Ext.alloc ?_ _ | refine Ext.drew ?_ | refine Ext.drewN ?_ _ | (refine Ext.setCell ?_ (by simp <;> omega) _) | refine Ext.trans ?_ (by assumption))), by simp, Blk.new2 _ _ _ _ _, World.ownsRow_nil _ _ _ _, fun s hs => by cases hs⟩
  have ws : IntKind.i64.wrap ((C : Int) - (n : Int)) = (q : Int) := by rw [IntWalk.i64_in _ (by omega)]; omega
  have HQN := Lib.hid (And.intro hq hn)
  have hq8 : q ≤ 8 := by omega
  clear hq hn
  unfold HV
  go_enter Try.func75, Try.ntmps75
  go_wp2
  generalize ((w.alloc (.cells #[.int .i64 (C : Int), .int .i64 (R : Int), .slice A rs.length hd] 94)).alloc (.cells #[.int .i64 0, .int .i64 0, .slice none 0 0] 94)) = w0 at *
  generalize (w0.alloc (.cells #[.int .i64 (q : Int), .int .i64 (R : Int), .slice none 0 0] 94)) = w1 at *
  have HPB : Hid (w.heap.size + 1 < w.heap.size + 1 + 1) := Lib.hid (Nat.lt_succ_self _)
  have HQB : Hid (w.heap.size ≤ w.heap.size + 1) := Lib.hid (Nat.le_succ _)
  generalize w.heap.size + 1 + 1 = pb at *
  generalize w.heap.size + 1 = qb at *
  obtain ⟨hb, hhb⟩ : ∃ hb, w.heap.size = hb := ⟨_, rfl⟩
  rw [hhb] at HB1 ⊢
  clear hhb
  go_loopw [7, 8, 9, 10] (fun v7 _ _ _ wr => ∃ (r : Nat) (v : Value) (rows : List SLf), r ≤ R ∧ v7 = .int .i64 (r : Int) ∧ Hid (Hw w0 wr pb q R (2 * B) v v rows) ∧ Hid (rows.length = r * q)) (fun v7 _ _ _ _ => R - (intOf v7).toNat)
  case atStart => exact ⟨0, _, _, Nat.zero_le _, rfl, HG0, Lib.hid (by simp)⟩
  case round =>
    obtain ⟨r, v, rows, hr, rfl, HG, HN⟩ := hrel
    clear HG0
    obtain ⟨m0, m1, m2, ml⟩ := (HB1.out.ext HG.out.ext).c3
    by_cases hlt : r < R
    case pos =>
      have ir : (r : Int) < (R : Int) := by omega
      go_wp2
      go_loopw [8, 9, 10] (fun v8 _ _ wr => ∃ (c : Nat) (v : Value) (rows : List SLf), c ≤ q ∧ v8 = .int .i64 (c : Int) ∧ Hid (Hw w0 wr pb q R (2 * B) v v rows) ∧ Hid (rows.length = r * q + c)) (fun v8 _ _ _ => q - (intOf v8).toNat)
      case atStart => exact ⟨0, _, _, Nat.zero_le _, rfl, HG, HN⟩
      case round =>
        clear HG HN m0 m1 m2 ml
        obtain ⟨c, v, rows, hc, rfl, HG, HN⟩ := hrel
        obtain ⟨m0, m1, m2, ml⟩ := (HB1.out.ext HG.out.ext).c3
        by_cases hlc : c < q
        case pos =>
          have ic : (c : Int) < (q : Int) := by omega
          have hgl := grid_lt (C := q) (R := R) hlc hlt
          have hrn2 : rows.length ≤ 1000 := by have := HN.out; omega
          obtain ⟨A0, d0, rfl, _⟩ := own_form HG.out.ho.own (by omega)
          obtain ⟨k0, k1, k2, kl⟩ := HG.out.blk.c3
          have HKL : Hid (pb + 1 ≤ wr.heap.size) := Lib.hid kl
          have hqn := HQN.out
          obtain ⟨f, hf⟩ : ∃ f, f = 2 * q - 1 - c := ⟨_, rfl⟩
          have hgk := grid_lt (C := C) (R := R) (c := c) (r := r) (by omega) (by omega)
          have HF2 : Hid (f < C → r * C + f < R * C) := Lib.hid fun hf9 => grid_lt hf9 (by omega)
          obtain ⟨eb, eo, s, hAe, hbe0, ce0, hso, hsl, hrl⟩ := HH.out.at_ (by omega) (by have := HBB.out; omega) (k := r * C + c) (by have := HL.out; omega)
          have HEL : Hid (f < C → ∃ s2 : SLf, w.cell? ⟨eb, eo + (r * C + f), none⟩ = some s2.val ∧ s2.l.length ≤ B ∧ RLf w s2.A s2.l) := Lib.hid fun hf9 => by
            obtain ⟨eb', eo', s2, hA2, _, c2, _, h2, h3⟩ := HH.out.at_ (by omega) (by have := HBB.out; omega) (k := r * C + f) (by have := HL.out; have := HF2.out hf9; omega)
            rw [hAe] at hA2
            cases hA2
            exact ⟨s2, c2, h2, h3⟩
          have u1 : IntKind.i64.wrap ((r : Int) * (C : Int)) = ((r * C : Nat) : Int) := by rw [IntWalk.i64_in _ (by rw [← Int.natCast_mul]; omega), Int.natCast_mul]
          obtain ⟨q1, hq1⟩ : ∃ q1 : Nat, q1 = r * C := ⟨_, rfl⟩
          rw [← hq1] at u1 ce0 hgk
          have u2 : IntKind.i64.wrap ((q1 : Int) + (c : Int)) = ((q1 + c : Nat) : Int) := by rw [IntWalk.i64_in _ (by omega)]; omega
          obtain ⟨k, hk2⟩ : ∃ k : Nat, k = q1 + c := ⟨_, rfl⟩
          rw [← hk2] at u2 ce0 hgk
          have ik : (k : Int) < (rs.length : Int) := by have := HL.out; omega
          have w4 : IntKind.i64.wrap (2 * (q : Int)) = 2 * (q : Int) := IntWalk.i64_in _ (by omega)
          have w5 : IntKind.i64.wrap (2 * (q : Int) - 1) = 2 * (q : Int) - 1 := IntWalk.i64_in _ (by omega)
          have w6 : IntKind.i64.wrap (2 * (q : Int) - 1 - (c : Int)) = (f : Int) := by rw [IntWalk.i64_in _ (by omega)]; omega
          have HK2 : Hid (f < C → r * C + f < rs.length) := Lib.hid fun hf9 => by have := HF2.out hf9; have := HL.out; omega
          rw [← hq1] at HK2 HEL
          obtain ⟨sA, sc, sl⟩ := s
          simp only [SLf.val] at ce0 hso hsl hrl
          have HXC := Lib.hid (HX0.out.trans HG.out.ext)
          have ce := (HXC.out.cell (p := ⟨eb, eo + k, none⟩) hbe0).trans ce0
          have hbe := Nat.lt_of_lt_of_le hbe0 HXC.out.size
          have HBE := Lib.hid hbe0
          have HSL := Lib.hid hsl; have HRL := Lib.hid (RLf.ext hrl HXC.out); have HAE := Lib.hid hAe
          have HLS := Lib.hid (OLf.lit0 wr)
          clear ce0 hbe0 hso hsl hrl hf hq1 hk2 hgl hgk hAe hqn
          rw [HAE.out] at m2
          have hsl2 : sl.length ≤ 200000 := by have := HSL.out; have := HBB.out; omega
          go_upto_region 10 with (first | (at_builtin; refine list_appendC placeLeafElt rfl (.tmp 30) (.tmp 40) rfl wr.heap.size 0 _ [] rfl (HLS.out.ext (by repeat (first | exact Ext.refl _ | assumption | refine Ext.alloc ?_ _ | refine Ext.drew ?_ | refine Ext.drewN ?_ _ | (refine Ext.setCell ?_ (by simp <;> omega) _) | refine Ext.trans ?_ (by assumption)))) sA sl.length sc (lfCells sl) rfl (RLf.ext HRL.out (by repeat (first | exact Ext.refl _ | assumption | refine Ext.alloc ?_ _ | refine Ext.drew ?_ | refine Ext.drewN ?_ _ | (refine Ext.setCell ?_ (by simp <;> omega) _) | refine Ext.trans ?_ (by assumption)))) (lfCells_one sl) (by omega) (by simp) ?_; intro v2 w2 ho hg; have HO2 : Hid (OLf w2 wr.heap.size v2 sl) := Lib.hid (by rw [Nat.zero_add, List.nil_append] at ho; exact ho); have HX2 : Hid (Ext wr w2) := Lib.hid (own_grown HLS.out hg ((Ext.refl wr).alloc _) (Nat.le_refl _)); clear ho hg))
          have HXA := Lib.hid (HG.out.ext.trans HX2.out)
          clear m0 m1 m2 ml k0 k1 k2 kl ce hbe
          obtain ⟨m0, m1, m2, ml⟩ := (HB1.out.ext HXA.out).c3
          rw [HAE.out] at m2
          obtain ⟨B2, d2, rfl, hr2⟩ := OLf.form HO2.out (by omega)
          by_cases hfs : f < C
          case neg =>
            have jf : ¬ (f : Int) < (C : Int) := by omega
            clear hfs
            go_upto_region 13 with fail
            have HOF := Lib.hid (HO2.out.mono (Nat.zero_le _))
            have HLE : Hid (sl.length ≤ 2 * B) := Lib.hid (by have := HSL.out; omega)
            have HXF := HX2
            have HM0 := Lib.hid (HG.out.next HXF.out)
            obtain ⟨k0, k1, k2, kl⟩ := HM0.out.blk.c3
            have HKL2 : Hid (pb + 1 ≤ w2.heap.size) := Lib.hid kl
            go_wp2_with (first | (at_builtin; refine list_appendC placeElt rfl (.tmp 65) (.tmp 67) rfl (pb + 1) rows.length _ (rows.map SLf.val) rfl (own_later HM0.out.ho.own (by repeat (first | exact Ext.refl _ | assumption | refine Ext.alloc ?_ _ | refine Ext.drew ?_ | refine Ext.drewN ?_ _ | (refine Ext.setCell ?_ (by simp <;> omega) _) | refine Ext.trans ?_ (by assumption)))) (some ⟨w2.heap.size, 0, none⟩) 1 1 [.slice B2 sl.length d2] rfl (RC.blk (n := 1) (size := 1) (Blk.new _ _ _) rfl (by omega)) (fun y hy => by rw [List.mem_singleton.1 hy]; rfl) (by omega) (by have := HKL2.out; simp; omega) ?_; intro v' w' ho hg; have HM := Lib.hid ((HM0.out.next (by repeat (first | exact Ext.refl _ | assumption | refine Ext.alloc ?_ _ | refine Ext.drew ?_ | refine Ext.drewN ?_ _ | (refine Ext.setCell ?_ (by simp <;> omega) _) | refine Ext.trans ?_ (by assumption)))).push (s := ⟨B2, d2, sl⟩) (HOF.out.ext (by repeat (first | exact Ext.refl _ | assumption | refine Ext.alloc ?_ _ | refine Ext.drew ?_ | refine Ext.drewN ?_ _ | (refine Ext.setCell ?_ (by simp <;> omega) _) | refine Ext.trans ?_ (by assumption)))) HLE.out hg ho); obtain ⟨A9, c9, rfl, _⟩ := own_form ho (by omega); obtain ⟨z0, z1, z2, zl⟩ := HM.out.blk.c3; have F := HM.out.blk.frozen 2; clear ho hg))
            go_roundw
            case rel => exact ⟨c + 1, _, _, by omega, by go_num, Lib.hid HM.out.store, Lib.hid (by rw [List.length_append, HN.out]; rfl)⟩
            case measure => simp [intOf]; omega
          case pos =>
            have jf : (f : Int) < (C : Int) := by omega
            obtain ⟨⟨tA, tc, tl⟩, ct0, htl, htr⟩ := HEL.out hfs
            have hk2l := HK2.out hfs
            have u4 : IntKind.i64.wrap ((q1 : Int) + (f : Int)) = ((q1 + f : Nat) : Int) := by rw [IntWalk.i64_in _ (by omega)]; omega
            obtain ⟨kk, hkk⟩ : ∃ kk : Nat, kk = q1 + f := ⟨_, rfl⟩
            rw [← hkk] at u4 ct0 hk2l
            simp only [SLf.val] at ct0 htl htr
            have ikk : (kk : Int) < (rs.length : Int) := by omega
            have HX2W := Lib.hid (HX0.out.trans HXA.out)
            have ct := (HX2W.out.cell (p := ⟨eb, eo + kk, none⟩) HBE.out).trans ct0
            have hbt := Nat.lt_of_lt_of_le HBE.out HX2W.out.size
            have htl2 : tl.length ≤ 50000 := by have := HBB.out; omega
            have HTL := Lib.hid htl; have HTR := Lib.hid (RLf.ext htr HX2W.out); have HR2 := Lib.hid hr2
            clear ct0 htl htr hkk hfs hk2l
            go_upto_region 13 with (first | (go_at_call 93; refine Calls.mono (rTurned_any tA tc tl 1 0 _ HTR.out (by omega)) ?_; rintro e w3 ⟨v3, l3, rfl, ho, hln, hx⟩; have HO3 := Lib.hid ho; have HX3 := Lib.hid hx; have HL3 := Lib.hid hln; clear ho hx hln) | (at_builtin; refine list_appendC placeLeafElt rfl (.tmp 61) (.tmp 62) rfl w2.heap.size l3.length _ (lfCells l3) rfl HO3.out B2 sl.length d2 (lfCells sl) rfl (RLf.ext HR2.out HX3.out) (lfCells_one sl) (by have := HL3.out; omega) HX3.out.size ?_; intro v4 w4 ho hg; have HO4 : Hid (OLf w4 w2.heap.size v4 (l3 ++ sl)) := Lib.hid (by unfold OLf; rw [List.length_append, lfCells_app]; exact ho); have HX4 : Hid (Ext w2 w4) := Lib.hid (own_grown HO3.out hg HX3.out (Nat.le_refl _)); clear ho hg))
            have HLE0 : Hid ((l3 ++ sl).length ≤ 2 * B) := Lib.hid (by rw [List.length_append, HL3.out]; have := HSL.out; have := HTL.out; omega)
            obtain ⟨B4, d4, rfl, _⟩ := OLf.form HO4.out (by have := HLE0.out; have := HBB.out; omega)
            have HOF := Lib.hid (HO4.out.mono (Nat.zero_le _))
            have HLE := HLE0
            have HXF := Lib.hid (HX2.out.trans HX4.out)
            generalize l3 ++ sl = l4 at *
            clear m0 m1 m2 ml ct hbt
            have HM0 := Lib.hid (HG.out.next HXF.out)
            obtain ⟨k0, k1, k2, kl⟩ := HM0.out.blk.c3
            have HKL2 : Hid (pb + 1 ≤ w4.heap.size) := Lib.hid kl
            go_wp2_with (first | (at_builtin; refine list_appendC placeElt rfl (.tmp 65) (.tmp 67) rfl (pb + 1) rows.length _ (rows.map SLf.val) rfl (own_later HM0.out.ho.own (by repeat (first | exact Ext.refl _ | assumption | refine Ext.alloc ?_ _ | refine Ext.drew ?_ | refine Ext.drewN ?_ _ | (refine Ext.setCell ?_ (by simp <;> omega) _) | refine Ext.trans ?_ (by assumption)))) (some ⟨w4.heap.size, 0, none⟩) 1 1 [.slice B4 l4.length d4] rfl (RC.blk (n := 1) (size := 1) (Blk.new _ _ _) rfl (by omega)) (fun y hy => by rw [List.mem_singleton.1 hy]; rfl) (by omega) (by have := HKL2.out; simp; omega) ?_; intro v' w' ho hg; have HM := Lib.hid ((HM0.out.next (by repeat (first | exact Ext.refl _ | assumption | refine Ext.alloc ?_ _ | refine Ext.drew ?_ | refine Ext.drewN ?_ _ | (refine Ext.setCell ?_ (by simp <;> omega) _) | refine Ext.trans ?_ (by assumption)))).push (s := ⟨B4, d4, l4⟩) (HOF.out.ext (by repeat (first | exact Ext.refl _ | assumption | refine Ext.alloc ?_ _ | refine Ext.drew ?_ | refine Ext.drewN ?_ _ | (refine Ext.setCell ?_ (by simp <;> omega) _) | refine Ext.trans ?_ (by assumption)))) HLE.out hg ho); obtain ⟨A9, c9, rfl, _⟩ := own_form ho (by omega); obtain ⟨z0, z1, z2, zl⟩ := HM.out.blk.c3; have F := HM.out.blk.frozen 2; clear ho hg))
            go_roundw
            case rel => exact ⟨c + 1, _, _, by omega, by go_num, Lib.hid HM.out.store, Lib.hid (by rw [List.length_append, HN.out]; rfl)⟩
            case measure => simp [intOf]; omega
        case neg =>
          obtain rfl : q = c := by omega
          have iC : ¬ (q : Int) < (q : Int) := by omega
          clear hlc
          go_wp2
          go_roundw
          case rel => exact ⟨r + 1, v, rows, by omega, by go_num, HG, Lib.hid (by rw [Nat.add_mul, Nat.one_mul]; exact HN.out)⟩
          case measure => simp [intOf]; omega
    case neg =>
      obtain rfl : R = r := by omega
      clear hr
      have hRn : rows.length ≤ 1000 := by have := HN.out; omega
      obtain ⟨A9, d9, rfl, _⟩ := own_form HG.out.ho.own (by omega)
      obtain ⟨k0, k1, k2, kl⟩ := HG.out.blk.c3
      have HB1 := Lib.hid (HB0.out.ext HG.out.ext)
      obtain ⟨r0, r1, r2, rl⟩ := HB1.out.c3
      have F := HB1.out.frozen
      have iR : ¬ (R : Int) < (R : Int) := by omega
      have HM := Lib.hid HG.out
      clear hlt HG
      go_wp2
      have HV := Lib.hid (HX0.out.trans HM.out.ext)
      have h9 := (HM.out.ho.mono (base' := qb + 1) (by have := HPB.out; omega)).far3 (Nat.lt_succ_self _) (by decide) HB1.out
      refine bodyPost_ret (v := .agg #[.int .i64 (q : Int), .int .i64 (R : Int), .slice A9 rows.length d9]) (by simp [results, Try.results75, go_sem, r0, r1, r2]) rfl ⟨A9, d9, rows, rfl, HN.out, (h9 _ _ _).mono (by have := HQB.out; omega), setCell3 HV.out HQB.out _ _ _⟩
set_option maxRecDepth 100000 in
set_option maxHeartbeats 8000000 in
theorem foldUp_any (C R B n q : Nat) (A : Option Addr) (hd : Nat) (rs : List SLf) (w : World) (hC : C ≤ 8) (hR : R ≤ 8) (hB : B ≤ 40000) (h : HO w 0 B (.slice A rs.length hd) rs) (hl : rs.length = R * C) (hq : q + n = R) (hn : n ≤ q) :
    Calls Try.prog 77 #[HV C R A rs.length hd, .int .i64 (n : Int)] w (RetH C q (2 * B) w) := by
  have hRC : R * C ≤ 64 := Nat.mul_le_mul hR hC
  have hORC : q * C ≤ 64 := Nat.mul_le_mul (show q ≤ 8 by omega) (show C ≤ 8 by omega)
  have HH := Lib.hid h
  clear h
  have HL := Lib.hid hl
  have hrn : rs.length ≤ 1000 := by omega
  have hbr : rs.length ≤ 9223372036854775807 := by omega
  have HBB := Lib.hid hB
  clear hl hB
  have HB1 := Lib.hid ((Blk.new w 94 #[.int .i64 (C : Int), .int .i64 (R : Int), .slice A rs.length hd]).alloc (.cells #[.int .i64 0, .int .i64 0, .slice none 0 0] 94))
  have HB0 := Lib.hid (Blk.new1 w (.cells #[.int .i64 (C : Int), .int .i64 (R : Int), .slice A rs.length hd] 94) 94 #[.int .i64 0, .int .i64 0, .slice none 0 0])
  have HX0 : Hid (Ext w ((w.alloc (.cells #[.int .i64 (C : Int), .int .i64 (R : Int), .slice A rs.length hd] 94)).alloc (.cells #[.int .i64 0, .int .i64 0, .slice none 0 0] 94))) := Lib.hid (by repeat (first | exact Ext.refl _ | assumption | refine Ext.alloc ?_ _ | refine Ext.drew ?_ | refine Ext.drewN ?_ _ | (refine Ext.setCell ?_ (by simp <;> omega) _) | refine Ext.trans ?_ (by assumption)))
  have HG0 : Hid (Hw ((w.alloc (.cells #[.int .i64 (C : Int), .int .i64 (R : Int), .slice A rs.length hd] 94)).alloc (.cells #[.int .i64 0, .int .i64 0, .slice none 0 0] 94)) (((w.alloc (.cells #[.int .i64 (C : Int), .int .i64 (R : Int), .slice A rs.length hd] 94)).alloc (.cells #[.int .i64 0, .int .i64 0, .slice none 0 0] 94)).alloc (.cells #[.int .i64 (C : Int), .int .i64 (q : Int), .slice none 0 0] 94)) (w.heap.size + 1 + 1) C q (2 * B) (.slice none 0 0) (.slice none 0 0) []) := Lib.hid
    ⟨(by repeat (first | exact Ext.refl _ | assumption | refine Ext.alloc ?_ _ | refine Ext.drew ?_ | refine Ext.drewN ?_ _ | (refine Ext.setCell ?_ (by simp <;> omega) _) | refine Ext.trans ?_ (by assumption))), by simp, Blk.new2 _ _ _ _ _, World.ownsRow_nil _ _ _ _, fun s hs => by cases hs⟩
  have ws : IntKind.i64.wrap ((R : Int) - (n : Int)) = (q : Int) := by rw [IntWalk.i64_in _ (by omega)]; omega
  have HQN := Lib.hid (And.intro hq hn)
  have hq8 : q ≤ 8 := by omega
  clear hq hn
  unfold HV
  go_enter Try.func77, Try.ntmps77
  go_wp2
  generalize ((w.alloc (.cells #[.int .i64 (C : Int), .int .i64 (R : Int), .slice A rs.length hd] 94)).alloc (.cells #[.int .i64 0, .int .i64 0, .slice none 0 0] 94)) = w0 at *
  generalize (w0.alloc (.cells #[.int .i64 (C : Int), .int .i64 (q : Int), .slice none 0 0] 94)) = w1 at *
  have HPB : Hid (w.heap.size + 1 < w.heap.size + 1 + 1) := Lib.hid (Nat.lt_succ_self _)
  have HQB : Hid (w.heap.size ≤ w.heap.size + 1) := Lib.hid (Nat.le_succ _)
  generalize w.heap.size + 1 + 1 = pb at *
  generalize w.heap.size + 1 = qb at *
  obtain ⟨hb, hhb⟩ : ∃ hb, w.heap.size = hb := ⟨_, rfl⟩
  rw [hhb] at HB1 ⊢
  clear hhb
  go_loopw [7, 8, 9, 10] (fun v7 _ _ _ wr => ∃ (r : Nat) (v : Value) (rows : List SLf), r ≤ q ∧ v7 = .int .i64 (r : Int) ∧ Hid (Hw w0 wr pb C q (2 * B) v v rows) ∧ Hid (rows.length = r * C)) (fun v7 _ _ _ _ => q - (intOf v7).toNat)
  case atStart => exact ⟨0, _, _, Nat.zero_le _, rfl, HG0, Lib.hid (by simp)⟩
  case round =>
    obtain ⟨r, v, rows, hr, rfl, HG, HN⟩ := hrel
    clear HG0
    obtain ⟨m0, m1, m2, ml⟩ := (HB1.out.ext HG.out.ext).c3
    by_cases hlt : r < q
    case pos =>
      have ir : (r : Int) < (q : Int) := by omega
      go_wp2
      go_loopw [8, 9, 10] (fun v8 _ _ wr => ∃ (c : Nat) (v : Value) (rows : List SLf), c ≤ C ∧ v8 = .int .i64 (c : Int) ∧ Hid (Hw w0 wr pb C q (2 * B) v v rows) ∧ Hid (rows.length = r * C + c)) (fun v8 _ _ _ => C - (intOf v8).toNat)
      case atStart => exact ⟨0, _, _, Nat.zero_le _, rfl, HG, HN⟩
      case round =>
        clear HG HN m0 m1 m2 ml
        obtain ⟨c, v, rows, hc, rfl, HG, HN⟩ := hrel
        obtain ⟨m0, m1, m2, ml⟩ := (HB1.out.ext HG.out.ext).c3
        by_cases hlc : c < C
        case pos =>
          have ic : (c : Int) < (C : Int) := by omega
          have hgl := grid_lt (C := C) (R := q) hlc hlt
          have hrn2 : rows.length ≤ 1000 := by have := HN.out; omega
          obtain ⟨A0, d0, rfl, _⟩ := own_form HG.out.ho.own (by omega)
          obtain ⟨k0, k1, k2, kl⟩ := HG.out.blk.c3
          have HKL : Hid (pb + 1 ≤ wr.heap.size) := Lib.hid kl
          have hqn := HQN.out
          obtain ⟨f, hf⟩ : ∃ f, f = 2 * q - 1 - r := ⟨_, rfl⟩
          have hgk := grid_lt (C := C) (R := R) (c := c) (r := r) (by omega) (by omega)
          have HF2 : Hid (f < R → f * C + c < R * C) := Lib.hid fun hf9 => grid_lt (by omega) hf9
          obtain ⟨eb, eo, s, hAe, hbe0, ce0, hso, hsl, hrl⟩ := HH.out.at_ (by omega) (by have := HBB.out; omega) (k := r * C + c) (by have := HL.out; omega)
          have HEL : Hid (f < R → ∃ s2 : SLf, w.cell? ⟨eb, eo + (f * C + c), none⟩ = some s2.val ∧ s2.l.length ≤ B ∧ RLf w s2.A s2.l) := Lib.hid fun hf9 => by
            obtain ⟨eb', eo', s2, hA2, _, c2, _, h2, h3⟩ := HH.out.at_ (by omega) (by have := HBB.out; omega) (k := f * C + c) (by have := HL.out; have := HF2.out hf9; omega)
            rw [hAe] at hA2
            cases hA2
            exact ⟨s2, c2, h2, h3⟩
          have u1 : IntKind.i64.wrap ((r : Int) * (C : Int)) = ((r * C : Nat) : Int) := by rw [IntWalk.i64_in _ (by rw [← Int.natCast_mul]; omega), Int.natCast_mul]
          obtain ⟨q1, hq1⟩ : ∃ q1 : Nat, q1 = r * C := ⟨_, rfl⟩
          rw [← hq1] at u1 ce0 hgk
          have u2 : IntKind.i64.wrap ((q1 : Int) + (c : Int)) = ((q1 + c : Nat) : Int) := by rw [IntWalk.i64_in _ (by omega)]; omega
          obtain ⟨k, hk2⟩ : ∃ k : Nat, k = q1 + c := ⟨_, rfl⟩
          rw [← hk2] at u2 ce0 hgk
          have ik : (k : Int) < (rs.length : Int) := by have := HL.out; omega
          have w4 : IntKind.i64.wrap (2 * (q : Int)) = 2 * (q : Int) := IntWalk.i64_in _ (by omega)
          have w5 : IntKind.i64.wrap (2 * (q : Int) - 1) = 2 * (q : Int) - 1 := IntWalk.i64_in _ (by omega)
          have w6 : IntKind.i64.wrap (2 * (q : Int) - 1 - (r : Int)) = (f : Int) := by rw [IntWalk.i64_in _ (by omega)]; omega
          have HK2 : Hid (f < R → f * C + c < rs.length) := Lib.hid fun hf9 => by have := HF2.out hf9; have := HL.out; omega
          have HU3 : Hid (f < R → IntKind.i64.wrap ((f : Int) * (C : Int)) = ((f * C : Nat) : Int)) := Lib.hid fun hf9 => by
            have := HF2.out hf9
            rw [IntWalk.i64_in _ (by rw [← Int.natCast_mul]; omega), Int.natCast_mul]
          obtain ⟨sA, sc, sl⟩ := s
          simp only [SLf.val] at ce0 hso hsl hrl
          have HXC := Lib.hid (HX0.out.trans HG.out.ext)
          have ce := (HXC.out.cell (p := ⟨eb, eo + k, none⟩) hbe0).trans ce0
          have hbe := Nat.lt_of_lt_of_le hbe0 HXC.out.size
          have HBE := Lib.hid hbe0
          have HSL := Lib.hid hsl; have HRL := Lib.hid (RLf.ext hrl HXC.out); have HAE := Lib.hid hAe
          have HLS := Lib.hid (OLf.lit0 wr)
          clear ce0 hbe0 hso hsl hrl hf hq1 hk2 hgl hgk hAe hqn
          rw [HAE.out] at m2
          have hsl2 : sl.length ≤ 200000 := by have := HSL.out; have := HBB.out; omega
          go_upto_region 10 with (first | (at_builtin; refine list_appendC placeLeafElt rfl (.tmp 30) (.tmp 40) rfl wr.heap.size 0 _ [] rfl (HLS.out.ext (by repeat (first | exact Ext.refl _ | assumption | refine Ext.alloc ?_ _ | refine Ext.drew ?_ | refine Ext.drewN ?_ _ | (refine Ext.setCell ?_ (by simp <;> omega) _) | refine Ext.trans ?_ (by assumption)))) sA sl.length sc (lfCells sl) rfl (RLf.ext HRL.out (by repeat (first | exact Ext.refl _ | assumption | refine Ext.alloc ?_ _ | refine Ext.drew ?_ | refine Ext.drewN ?_ _ | (refine Ext.setCell ?_ (by simp <;> omega) _) | refine Ext.trans ?_ (by assumption)))) (lfCells_one sl) (by omega) (by simp) ?_; intro v2 w2 ho hg; have HO2 : Hid (OLf w2 wr.heap.size v2 sl) := Lib.hid (by rw [Nat.zero_add, List.nil_append] at ho; exact ho); have HX2 : Hid (Ext wr w2) := Lib.hid (own_grown HLS.out hg ((Ext.refl wr).alloc _) (Nat.le_refl _)); clear ho hg))
          have HXA := Lib.hid (HG.out.ext.trans HX2.out)
          clear m0 m1 m2 ml k0 k1 k2 kl ce hbe
          obtain ⟨m0, m1, m2, ml⟩ := (HB1.out.ext HXA.out).c3
          rw [HAE.out] at m2
          obtain ⟨B2, d2, rfl, hr2⟩ := OLf.form HO2.out (by omega)
          by_cases hfs : f < R
          case neg =>
            have jf : ¬ (f : Int) < (R : Int) := by omega
            clear hfs
            go_upto_region 13 with fail
            have HOF := Lib.hid (HO2.out.mono (Nat.zero_le _))
            have HLE : Hid (sl.length ≤ 2 * B) := Lib.hid (by have := HSL.out; omega)
            have HXF := HX2
            have HM0 := Lib.hid (HG.out.next HXF.out)
            obtain ⟨k0, k1, k2, kl⟩ := HM0.out.blk.c3
            have HKL2 : Hid (pb + 1 ≤ w2.heap.size) := Lib.hid kl
            go_wp2_with (first | (at_builtin; refine list_appendC placeElt rfl (.tmp 65) (.tmp 67) rfl (pb + 1) rows.length _ (rows.map SLf.val) rfl (own_later HM0.out.ho.own (by repeat (first | exact Ext.refl _ | assumption | refine Ext.alloc ?_ _ | refine Ext.drew ?_ | refine Ext.drewN ?_ _ | (refine Ext.setCell ?_ (by simp <;> omega) _) | refine Ext.trans ?_ (by assumption)))) (some ⟨w2.heap.size, 0, none⟩) 1 1 [.slice B2 sl.length d2] rfl (RC.blk (n := 1) (size := 1) (Blk.new _ _ _) rfl (by omega)) (fun y hy => by rw [List.mem_singleton.1 hy]; rfl) (by omega) (by have := HKL2.out; simp; omega) ?_; intro v' w' ho hg; have HM := Lib.hid ((HM0.out.next (by repeat (first | exact Ext.refl _ | assumption | refine Ext.alloc ?_ _ | refine Ext.drew ?_ | refine Ext.drewN ?_ _ | (refine Ext.setCell ?_ (by simp <;> omega) _) | refine Ext.trans ?_ (by assumption)))).push (s := ⟨B2, d2, sl⟩) (HOF.out.ext (by repeat (first | exact Ext.refl _ | assumption | refine Ext.alloc ?_ _ | refine Ext.drew ?_ | refine Ext.drewN ?_ _ | (refine Ext.setCell ?_ (by simp <;> omega) _) | refine Ext.trans ?_ (by assumption)))) HLE.out hg ho); obtain ⟨A9, c9, rfl, _⟩ := own_form ho (by omega); obtain ⟨z0, z1, z2, zl⟩ := HM.out.blk.c3; have F := HM.out.blk.frozen 2; clear ho hg))
            go_roundw
            case rel => exact ⟨c + 1, _, _, by omega, by go_num, Lib.hid HM.out.store, Lib.hid (by rw [List.length_append, HN.out]; rfl)⟩
            case measure => simp [intOf]; omega
          case pos =>
            have jf : (f : Int) < (R : Int) := by omega
            obtain ⟨⟨tA, tc, tl⟩, ct0, htl, htr⟩ := HEL.out hfs
            have hk2l := HK2.out hfs
            have u3 := HU3.out hfs
            obtain ⟨q2, hq2⟩ : ∃ q2 : Nat, q2 = f * C := ⟨_, rfl⟩
            rw [← hq2] at u3 ct0 hk2l
            have u4 : IntKind.i64.wrap ((q2 : Int) + (c : Int)) = ((q2 + c : Nat) : Int) := by rw [IntWalk.i64_in _ (by omega)]; omega
            obtain ⟨kk, hkk⟩ : ∃ kk : Nat, kk = q2 + c := ⟨_, rfl⟩
            rw [← hkk] at u4 ct0 hk2l
            clear hq2
            simp only [SLf.val] at ct0 htl htr
            have ikk : (kk : Int) < (rs.length : Int) := by omega
            have HX2W := Lib.hid (HX0.out.trans HXA.out)
            have ct := (HX2W.out.cell (p := ⟨eb, eo + kk, none⟩) HBE.out).trans ct0
            have hbt := Nat.lt_of_lt_of_le HBE.out HX2W.out.size
            have htl2 : tl.length ≤ 50000 := by have := HBB.out; omega
            have HTL := Lib.hid htl; have HTR := Lib.hid (RLf.ext htr HX2W.out); have HR2 := Lib.hid hr2
            clear ct0 htl htr hkk hfs hk2l
            go_upto_region 13 with (first | (go_at_call 93; refine Calls.mono (rTurned_any tA tc tl 1 1 _ HTR.out (by omega)) ?_; rintro e w3 ⟨v3, l3, rfl, ho, hln, hx⟩; have HO3 := Lib.hid ho; have HX3 := Lib.hid hx; have HL3 := Lib.hid hln; clear ho hx hln) | (at_builtin; refine list_appendC placeLeafElt rfl (.tmp 61) (.tmp 62) rfl w2.heap.size l3.length _ (lfCells l3) rfl HO3.out B2 sl.length d2 (lfCells sl) rfl (RLf.ext HR2.out HX3.out) (lfCells_one sl) (by have := HL3.out; omega) HX3.out.size ?_; intro v4 w4 ho hg; have HO4 : Hid (OLf w4 w2.heap.size v4 (l3 ++ sl)) := Lib.hid (by unfold OLf; rw [List.length_append, lfCells_app]; exact ho); have HX4 : Hid (Ext w2 w4) := Lib.hid (own_grown HO3.out hg HX3.out (Nat.le_refl _)); clear ho hg))
            have HLE0 : Hid ((l3 ++ sl).length ≤ 2 * B) := Lib.hid (by rw [List.length_append, HL3.out]; have := HSL.out; have := HTL.out; omega)
            obtain ⟨B4, d4, rfl, _⟩ := OLf.form HO4.out (by have := HLE0.out; have := HBB.out; omega)
            have HOF := Lib.hid (HO4.out.mono (Nat.zero_le _))
            have HLE := HLE0
            have HXF := Lib.hid (HX2.out.trans HX4.out)
            generalize l3 ++ sl = l4 at *
            clear m0 m1 m2 ml ct hbt
            have HM0 := Lib.hid (HG.out.next HXF.out)
            obtain ⟨k0, k1, k2, kl⟩ := HM0.out.blk.c3
            have HKL2 : Hid (pb + 1 ≤ w4.heap.size) := Lib.hid kl
            go_wp2_with (first | (at_builtin; refine list_appendC placeElt rfl (.tmp 65) (.tmp 67) rfl (pb + 1) rows.length _ (rows.map SLf.val) rfl (own_later HM0.out.ho.own (by repeat (first | exact Ext.refl _ | assumption | refine Ext.alloc ?_ _ | refine Ext.drew ?_ | refine Ext.drewN ?_ _ | (refine Ext.setCell ?_ (by simp <;> omega) _) | refine Ext.trans ?_ (by assumption)))) (some ⟨w4.heap.size, 0, none⟩) 1 1 [.slice B4 l4.length d4] rfl (RC.blk (n := 1) (size := 1) (Blk.new _ _ _) rfl (by omega)) (fun y hy => by rw [List.mem_singleton.1 hy]; rfl) (by omega) (by have := HKL2.out; simp; omega) ?_; intro v' w' ho hg; have HM := Lib.hid ((HM0.out.next (by repeat (first | exact Ext.refl _ | assumption | refine Ext.alloc ?_ _ | refine Ext.drew ?_ | refine Ext.drewN ?_ _ | (refine Ext.setCell ?_ (by simp <;> omega) _) | refine Ext.trans ?_ (by assumption)))).push (s := ⟨B4, d4, l4⟩) (HOF.out.ext (by repeat (first | exact Ext.refl _ | assumption | refine Ext.alloc ?_ _ | refine Ext.drew ?_ | refine Ext.drewN ?_ _ | (refine Ext.setCell ?_ (by simp <;> omega) _) | refine Ext.trans ?_ (by assumption)))) HLE.out hg ho); obtain ⟨A9, c9, rfl, _⟩ := own_form ho (by omega); obtain ⟨z0, z1, z2, zl⟩ := HM.out.blk.c3; have F := HM.out.blk.frozen 2; clear ho hg))
            go_roundw
            case rel => exact ⟨c + 1, _, _, by omega, by go_num, Lib.hid HM.out.store, Lib.hid (by rw [List.length_append, HN.out]; rfl)⟩
            case measure => simp [intOf]; omega
        case neg =>
          obtain rfl : C = c := by omega
          have iC : ¬ (C : Int) < (C : Int) := by omega
          clear hlc
          go_wp2
          go_roundw
          case rel => exact ⟨r + 1, v, rows, by omega, by go_num, HG, Lib.hid (by rw [Nat.add_mul, Nat.one_mul]; exact HN.out)⟩
          case measure => simp [intOf]; omega
    case neg =>
      obtain rfl : q = r := by omega
      clear hr
      have hRn : rows.length ≤ 1000 := by have := HN.out; omega
      obtain ⟨A9, d9, rfl, _⟩ := own_form HG.out.ho.own (by omega)
      obtain ⟨k0, k1, k2, kl⟩ := HG.out.blk.c3
      have HB1 := Lib.hid (HB0.out.ext HG.out.ext)
      obtain ⟨r0, r1, r2, rl⟩ := HB1.out.c3
      have F := HB1.out.frozen
      have iR : ¬ (q : Int) < (q : Int) := by omega
      have HM := Lib.hid HG.out
      clear hlt HG
      go_wp2
      have HV := Lib.hid (HX0.out.trans HM.out.ext)
      have h9 := (HM.out.ho.mono (base' := qb + 1) (by have := HPB.out; omega)).far3 (Nat.lt_succ_self _) (by decide) HB1.out
      refine bodyPost_ret (v := .agg #[.int .i64 (C : Int), .int .i64 (q : Int), .slice A9 rows.length d9]) (by simp [results, Try.results77, go_sem, r0, r1, r2]) rfl ⟨A9, d9, rows, rfl, HN.out, (h9 _ _ _).mono (by have := HQB.out; omega), setCell3 HV.out HQB.out _ _ _⟩
end Go.Proofs.Ytniiahddpdiocaa
