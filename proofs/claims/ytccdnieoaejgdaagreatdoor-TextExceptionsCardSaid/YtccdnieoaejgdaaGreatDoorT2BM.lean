/-
  Walk: the levels of all places of a word (the reference's LevelsOf).
-/
import Derived.Test.YtccdnieoaejgdaaGreatDoorT2BK
import Derived.Test.YtccdnieoaejgdaaGreatDoorT2BL
set_option linter.unusedVariables false
set_option linter.unusedSimpArgs false
set_option linter.unusedSectionVars false
namespace Go.Proofs.YtccdnieoaejgdaaGreatDoor
open Go.RowKit Go.Lib

/-- What holds while the levels are gathered. -/
structure LvS (w : World) (C : Array Value) (g m : Nat) (F : Nat → Int) (W : World) : Prop where
  ext : Ext w W
  bx : Blk W w.heap.size 24 C
  lo : g = w.heap.size + 1
  sl : SL W g (some ⟨g, 0, none⟩) (m + 1) (outF m F)
section
variable {w W W' : World} {C : Array Value} {g m : Nat} {F G : Nat → Int}
theorem LvS.next (h : LvS w C g m F W) (hx : Ext W W') : LvS w C g m F W' := ⟨h.ext.trans hx, h.bx.ext hx, h.lo, h.sl.ext hx⟩
theorem LvS.put (h : LvS w C g m F W) (hm : m ≤ 100000) {i : Nat} (hi : i ≤ m) (z : Int) (hG : ∀ k, G k = if k = i then z else F k) : LvS w C g m G (W.setCell ⟨g, i, none⟩ (.int .i64 z)) := by
  have hl := h.lo
  obtain rfl : G = fun k => if k = i then z else F k := funext hG
  refine ⟨h.ext.setCell (p := ⟨g, i, none⟩) (by simp only; omega) _, h.bx.far (p := ⟨g, i, none⟩) (by simp only; omega) _, hl, ?_⟩
  rw [← outF_set m F z hi]
  exact h.sl.put_ (by rw [outF_len]; omega) i z
theorem LvS.at_ (h : LvS w C g m F W) {i : Nat} (hi : i ≤ m) : W.cell? ⟨g, i, none⟩ = some (.int .i64 (F i)) ∧ W.frozen? ⟨g, i, none⟩ = false ∧ g < W.heap.size := by
  have h1 := h.sl.at_ (k := i) (by rw [outF_len]; omega)
  rwa [outF_at m F hi] at h1
end
theorem Own.ri {w : World} {base n c : Nat} {A : Option Addr} {zs : List Int} (h : Own w base (.slice A n c) zs) (hz : zs.length ≤ 140737488351232) : RI w A zs.length zs := by
  obtain ⟨A', c', he, _, hr⟩ := Own.form h hz
  obtain ⟨rfl, _, _⟩ := Value.slice.inj he
  exact hr
/-- The first j places have one more pattern's levels. -/
def upJ (F H : Nat → Int) (j : Nat) : Nat → Int := fun i => if i < j then max (F i) (H i) else F i
theorem upJ_next (F H : Nat → Int) (j : Nat) : ∀ k, upJ F H (j + 1) k = if k = j then max (F j) (H j) else upJ F H j k := fun k => by
  unfold upJ
  by_cases h : k = j
  · subst h; rw [if_pos (by omega), if_pos rfl]
  · rw [if_neg h]
    by_cases h2 : k < j
    · rw [if_pos (by omega), if_pos h2]
    · rw [if_neg (by omega), if_neg h2]
theorem lvList_out (r : RU) (w : List UInt8) : lvList r w = outF w.length (lvOf r w) := by
  unfold lvList lvK outF lvOf; rw [low_len]
set_option maxRecDepth 100000 in
set_option maxHeartbeats 8000000 in
theorem rLevelsOf_any (r : RU) (a : RuA) (s : ByteArray) (w : World) (h : RuR w a r) (hs : ShortU r) (hR : patBad r.pats r.pats.length = none) (hz : s.size ≤ 100) :
    Calls Tryz.prog 37 #[r.val a, .string s] w (RetS (lvList r s.data.toList) w) := by
  obtain ⟨pa, pc, ea, ec, ba, bc⟩ := a
  have hb1 := h.pats.2.1
  have HRP := Lib.hid h.pats
  have HSP := Lib.hid hs.p
  have HLL : Hid (s.data.toList.length = s.size) := Lib.hid (by simp)
  have HPA : Hid (∀ k, k < r.pats.length → ∃ p, patOf (r.pats.getD k ByteArray.empty).data.toList = some p ∧ (patsOf r).getD k Pat.zero = p ∧ p.Ok) := Lib.hid fun k hk => by
    obtain ⟨p, hp⟩ := patBad_none hR k hk
    exact ⟨p, hp, by rw [patsOf_at hk, hp]; rfl, patOf_ok hp⟩
  have HLV : Hid (∀ k i, lvBy (patsOf r) (low s.data.toList) (k + 1) i = max (lvBy (patsOf r) (low s.data.toList) k i) (lvIn ((patsOf r).getD k Pat.zero) (low s.data.toList) i)) := Lib.hid fun k i => rfl
  have HV : Hid (lvList r s.data.toList = outF s.size (lvBy (patsOf r) (low s.data.toList) r.pats.length)) := Lib.hid (by rw [lvList_out, HLL.out]; rfl)
  have HLO : Hid ((low s.data.toList).length = s.size) := Lib.hid (by rw [low_len, HLL.out])
  generalize lvList r s.data.toList = out at *
  have HF0 : Hid (lvBy (patsOf r) (low s.data.toList) 0 = fun _ => 0) := Lib.hid (by funext i; rfl)
  generalize hG : lvBy (patsOf r) (low s.data.toList) = G at *
  clear hG
  have u1 : IntKind.i64.wrap ((s.size : Int) + 1) = (s.size : Int) + 1 := IntWalk.i64_in _ (by omega)
  have hmk := run_make_ints (s.size + 1) (by omega)
  simp only [Int.natCast_add, Int.natCast_one] at hmk
  clear h hs hR
  unfold RU.val
  simp only at HRP hb1 ⊢
  go_enter Tryz.func37, Tryz.ntmps37
  go_upto_region 2 with fail
  clear hmk
  have HS0 : Hid (LvS w #[.slice pa r.pats.length pc, .slice ea r.excs.length ec, .slice ba r.bars.length bc, .int .i64 r.left, .int .i64 r.right] (w.heap.size + 1) s.size (G 0) ((w.alloc (.cells #[.slice pa r.pats.length pc, .slice ea r.excs.length ec, .slice ba r.bars.length bc, .int .i64 r.left, .int .i64 r.right] 24)).alloc (.cells (Array.replicate (s.size + 1) (.int .i64 0)) 3))) := Lib.hid (by
    refine ⟨(by repeat (first | exact Ext.refl _ | assumption | refine Ext.alloc ?_ _ | refine Ext.drew ?_ | refine Ext.drewN ?_ _ | (refine Ext.setCell ?_ (by simp <;> omega) _) | refine Ext.trans ?_ (by assumption))), (Blk.new w _ _).alloc _, rfl, ?_⟩
    have hz : outF s.size (G 0) = List.replicate (s.size + 1) 0 := by
      unfold outF
      rw [List.eq_replicate_iff, HF0.out]
      exact ⟨by simp, by simp⟩
    have h := World.ownsRow_lit (e := 3) (size := 1) (base := w.heap.size + 1) (w.alloc (.cells #[.slice pa r.pats.length pc, .slice ea r.excs.length ec, .slice ba r.bars.length bc, .int .i64 r.left, .int .i64 r.right] 24)) (Array.replicate (s.size + 1) (.int .i64 0)) (s.size + 1) (by simp) (by unfold maxLen; omega) (by simp)
    rw [hz]
    refine SL.of_own ?_ (by simp; omega)
    unfold Own
    simpa using h)
  generalize ((w.alloc (.cells #[.slice pa r.pats.length pc, .slice ea r.excs.length ec, .slice ba r.bars.length bc, .int .i64 r.left, .int .i64 r.right] 24)).alloc (.cells (Array.replicate (s.size + 1) (.int .i64 0)) 3)) = w2 at *
  obtain ⟨g, hg⟩ : ∃ g, g = w.heap.size + 1 := ⟨_, rfl⟩
  rw [← hg] at HS0 ⊢
  clear hg
  generalize hC : (#[.slice pa r.pats.length pc, .slice ea r.excs.length ec, .slice ba r.bars.length bc, .int .i64 r.left, .int .i64 r.right] : Array Value) = C at *
  have HB0 : Hid (∀ F W, LvS w C g s.size F W → W.cell? ⟨w.heap.size, 0, none⟩ = some (.slice pa r.pats.length pc) ∧ w.heap.size < W.heap.size) := Lib.hid fun F W h => ⟨h.bx.cell 0 _ (by rw [← hC]; rfl), h.bx.lt⟩
  clear hC
  obtain ⟨hb, hhb⟩ : ∃ hb, hb = w.heap.size := ⟨_, rfl⟩
  rw [← hhb] at HB0 ⊢
  clear hhb
  generalize r.pats = l at *
  go_upto_region 3 with fail
  go_loopw [6, 7, 8, 9, 10] (fun v6 _ _ _ _ wr => ∃ k : Nat, k ≤ l.length ∧ v6 = .int .i64 (k : Int) ∧ Hid (LvS w C g s.size (G k) wr)) (fun v6 _ _ _ _ _ => l.length - (intOf v6).toNat)
  case atStart => exact ⟨0, Nat.zero_le _, rfl, HS0⟩
  case round =>
    clear HS0
    obtain ⟨k, hk, rfl, HS⟩ := hrel
    obtain ⟨k0, kl⟩ := HB0.out _ _ HS.out
    by_cases hlt : k < l.length
    case neg =>
      obtain rfl : k = l.length := by omega
      have ik : ¬ (l.length : Int) < (l.length : Int) := by omega
      go_wp2
      go_ret
      refine ⟨some ⟨g, 0, none⟩, s.size + 1, by rw [HV.out, outF_len]; rfl, ?_, HS.out.ext⟩
      rw [HV.out]
      exact HS.out.sl.mono (by have := HS.out.lo; omega)
    case pos =>
      have ik : (k : Int) < (l.length : Int) := by omega
      have hszk := HSP.out.2 k hlt
      obtain ⟨b, off, hpa, hbw, hcell⟩ := (HRP.out.ext HS.out.ext).2.2 (by omega)
      subst hpa
      have ck := hcell k hlt
      clear hcell
      obtain ⟨p, hp, hp2, hp3⟩ := HPA.out k hlt
      have HLK : Hid (∀ i, G (k + 1) i = max (G k i) (lvIn p (low s.data.toList) i)) := Lib.hid fun i => by rw [HLV.out, hp2]
      have HOK := Lib.hid hp3
      have CP := Lib.hid fun W => readPattern_yes (l.getD k ByteArray.empty) p W (by omega) hp
      have HLN : Hid ((lvListIn p (low s.data.toList)).length = s.size + 1) := Lib.hid (by rw [lvListIn_len, HLO.out])
      have HLA : Hid (∀ j, j ≤ s.size → (lvListIn p (low s.data.toList)).getD j 0 = lvIn p (low s.data.toList) j) := Lib.hid fun j hj => lvListIn_at _ _ (by rw [HLO.out]; exact hj)
      generalize l.getD k ByteArray.empty = t at *
      clear hp hp2 hp3 hszk
      go_upto_region 6 with (first | (go_at_call 85; refine Calls.mono (CP.out _) ?_; rintro e w1 ⟨A1, c1, rfl, ho1, hx⟩; have HX1 := Lib.hid hx; have HO1 := Lib.hid ho1; have hz1 := hx.size; clear hx ho1) | (go_at_call 86; refine Calls.mono (rLevels_any p A1 c1 s _ HOK.out (HRI1.out.ext (by repeat (first | exact Ext.refl _ | assumption | refine Ext.alloc ?_ _ | refine Ext.drew ?_ | refine Ext.drewN ?_ _ | (refine Ext.setCell ?_ (by simp <;> omega) _) | refine Ext.trans ?_ (by assumption)))) (by omega)) ?_; rintro e w3 ⟨A5, c5, he, hsl, hx⟩; rw [HLN.out] at he; subst he; have HL5 := Lib.hid hsl; have HX3 := Lib.hid (Ext.trans (by repeat (first | exact Ext.refl _ | assumption | refine Ext.alloc ?_ _ | refine Ext.drew ?_ | refine Ext.drewN ?_ _ | (refine Ext.setCell ?_ (by simp <;> omega) _) | refine Ext.trans ?_ (by assumption))) hx); clear hsl hx))
      have hz0 := HS.out.ext.size
      obtain ⟨pq, hpq⟩ : ∃ pq, pq = w1.heap.size := ⟨_, rfl⟩
      have HRI1 : Hid (RI w1 A1 (levsL p).length (levsL p)) := Lib.hid (Own.ri HO1.out (by
        rw [levsL_len]
        have h0 := HOK.out.len; have h3 := HOK.out.hi
        have h1 : fN p ≤ 1 := by unfold fN; split <;> omega
        have h2 : eN p ≤ 1 := by unfold eN; split <;> omega
        omega))
      have hgw : g < wr.heap.size := (World.ownsRow.lt HS.out.sl.own g rfl).2
      clear hpq
      go_upto_region 8 with (first | (go_at_call 85; refine Calls.mono (CP.out _) ?_; rintro e w1 ⟨A1, c1, rfl, ho1, hx⟩; have HX1 := Lib.hid hx; have HO1 := Lib.hid ho1; have hz1 := hx.size; clear hx ho1) | (go_at_call 86; refine Calls.mono (rLevels_any p A1 c1 s _ HOK.out (HRI1.out.ext (by repeat (first | exact Ext.refl _ | assumption | refine Ext.alloc ?_ _ | refine Ext.drew ?_ | refine Ext.drewN ?_ _ | (refine Ext.setCell ?_ (by simp <;> omega) _) | refine Ext.trans ?_ (by assumption)))) (by omega)) ?_; rintro e w3 ⟨A5, c5, he, hsl, hx⟩; rw [HLN.out] at he; subst he; have HL5 := Lib.hid hsl; have HX3 := Lib.hid (Ext.trans (by repeat (first | exact Ext.refl _ | assumption | refine Ext.alloc ?_ _ | refine Ext.drew ?_ | refine Ext.drewN ?_ _ | (refine Ext.setCell ?_ (by simp <;> omega) _) | refine Ext.trans ?_ (by assumption))) hx); clear hsl hx))
      have HSX := Lib.hid (HS.out.next ((HX1.out.trans ((Ext.refl _).alloc _)).trans HX3.out))
      have HS1 : Hid (LvS w C g s.size (upJ (G k) (lvIn p (low s.data.toList)) 0) w3) := Lib.hid (by
        rw [show upJ (G k) (lvIn p (low s.data.toList)) 0 = G k from funext fun i => by unfold upJ; rw [if_neg (by omega)]]
        exact HSX.out)
      have HL6 : Hid (SL w3 (g + 1) A5 c5 (lvListIn p (low s.data.toList))) := Lib.hid (HL5.out.mono (by simp; omega))
      clear HS HSX HL5 k0 kl HRI1 HO1
      go_loopw [10] (fun v10 wr => ∃ j : Nat, j ≤ s.size + 1 ∧ v10 = .int .i64 (j : Int) ∧ Hid (LvS w C g s.size (upJ (G k) (lvIn p (low s.data.toList)) j) wr) ∧ Hid (SL wr (g + 1) A5 c5 (lvListIn p (low s.data.toList)))) (fun v10 _ => s.size + 1 - (intOf v10).toNat)
      case atStart => exact ⟨0, Nat.zero_le _, rfl, HS1, HL6⟩
      case round =>
        clear HS1 HL6
        obtain ⟨j, hj, rfl, HS, HL⟩ := hrel
        by_cases hjt : j < s.size + 1
        case neg =>
          obtain rfl : j = s.size + 1 := by omega
          have ij : ¬ ((s.size : Int) + 1) < (s.size : Int) + 1 := by omega
          have HS3 : Hid (LvS w C g s.size (G (k + 1)) wr) := Lib.hid (by
            have h := HS.out
            have h9 : outF s.size (upJ (G k) (lvIn p (low s.data.toList)) (s.size + 1)) = outF s.size (G (k + 1)) := outF_congr fun i hi => by
              unfold upJ; rw [if_pos (by omega), HLK.out]
            exact ⟨h.ext, h.bx, h.lo, by rw [← h9]; exact h.sl⟩)
          clear HS hj
          go_wp2
          go_roundw
          case rel => exact ⟨k + 1, by omega, by go_num, HS3⟩
          case measure => simp [intOf]; omega
        case pos =>
          have ij : (j : Int) < (s.size : Int) + 1 := by omega
          have hjm : j ≤ s.size := by omega
          obtain ⟨y0, yf, yl⟩ := HS.out.at_ hjm
          obtain ⟨lb, lo, hA, hlb, hlc⟩ := HL.out.ri.2.2 (by rw [HLN.out]; omega)
          have cj := hlc j (by rw [HLN.out]; exact hjt)
          rw [HLA.out j hjm] at cj
          have HUJ : Hid (upJ (G k) (lvIn p (low s.data.toList)) j j = G k j) := Lib.hid (by unfold upJ; rw [if_neg (by omega)])
          rw [HUJ.out] at y0
          have HSN : Hid (LvS w C g s.size (upJ (G k) (lvIn p (low s.data.toList)) (j + 1)) (wr.setCell ⟨g, j, none⟩ (.int .i64 (max (G k j) (lvIn p (low s.data.toList) j)))).drew) := Lib.hid (LvS.next (HS.out.put (by omega) hjm _ (upJ_next _ _ _)) (Ext.refl _).drew)
          have HLN2 : Hid (SL (wr.setCell ⟨g, j, none⟩ (.int .i64 (max (G k j) (lvIn p (low s.data.toList) j)))).drew (g + 1) A5 c5 (lvListIn p (low s.data.toList))) := Lib.hid ((HL.out.far_ (pb := g) (Nat.le_refl _) (by rw [HLN.out]; omega) j _).ext (Ext.refl _).drew)
          subst hA
          clear hlc HUJ HS HL
          generalize G k j = x at *
          generalize lvIn p (low s.data.toList) j = y at *
          go_upto_region 10 with fail
          go_still_tail 12, (by kernel_rfl)
          change wpList _ _ _ _ _ (World.drew _)
          go_wp2
          go_roundw
          case rel => exact ⟨j + 1, by omega, by go_num, HSN, HLN2⟩
          case measure => simp [intOf]; omega
end Go.Proofs.YtccdnieoaejgdaaGreatDoor
