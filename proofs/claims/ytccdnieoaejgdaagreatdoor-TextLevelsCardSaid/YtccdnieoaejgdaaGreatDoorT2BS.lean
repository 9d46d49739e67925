/-
  Walk: Deciding (the program's and the reference's).
  Walk: Deciding.
-/
import Derived.Test.YtccdnieoaejgdaaGreatDoorT2BR
import Derived.Test.YtccdnieoaejgdaaGreatDoorT2BM
import Derived.Test.YtccdnieoaejgdaaGreatDoorT2AQ
set_option linter.unusedVariables false
set_option linter.unusedSimpArgs false
set_option linter.unusedSectionVars false
namespace Go.Proofs.YtccdnieoaejgdaaGreatDoor
open Go.RowKit Go.Lib

/-- The first pattern that gives a place the level z, of the first n. -/
def decTo (ps : List Pat) (w : List UInt8) (i : Nat) (z : Int) : Nat → Option Nat
  | 0 => none
  | n + 1 => match decTo ps w i z n with
    | some k => some k
    | none => if lvIn (ps.getD n Pat.zero) w i = z then some n else none
theorem decTo_keep {ps : List Pat} {w : List UInt8} {i : Nat} {z : Int} {k j : Nat} (h : decTo ps w i z k = some j) : ∀ n, k ≤ n → decTo ps w i z n = some j
  | 0, hn => by rw [show k = 0 by omega] at h; exact h
  | n + 1, hn => by
    rcases Nat.lt_or_ge n k with h1 | h1
    · rw [show n + 1 = k by omega]; exact h
    · rw [decTo, decTo_keep h n h1]
theorem lvBy_found (ps : List Pat) (w : List UInt8) (i : Nat) : ∀ k, lvBy ps w k i ≠ 0 → ∃ j, j < k ∧ lvIn (ps.getD j Pat.zero) w i = lvBy ps w k i
  | 0, h => absurd rfl h
  | k + 1, h => by
    rw [lvBy] at h ⊢
    rcases Int.le_total (lvBy ps w k i) (lvIn (ps.getD k Pat.zero) w i) with h1 | h1
    · exact ⟨k, by omega, by omega⟩
    · have h2 : lvBy ps w k i ≠ 0 := by omega
      obtain ⟨j, hj, he⟩ := lvBy_found ps w i k h2
      exact ⟨j, by omega, by omega⟩
theorem decTo_none {ps : List Pat} {w : List UInt8} {i : Nat} {z : Int} : ∀ {n : Nat}, decTo ps w i z n = none → ∀ j, j < n → lvIn (ps.getD j Pat.zero) w i ≠ z
  | n + 1, h, j, hj => by
    rw [decTo] at h
    cases hb : decTo ps w i z n with
    | some k => rw [hb] at h; cases h
    | none =>
      rw [hb] at h
      simp only at h
      rcases Nat.lt_or_ge j n with h1 | h1
      · exact decTo_none hb j h1
      · obtain rfl : j = n := by omega
        intro e; rw [if_pos e] at h; cases h
def decN (o : Option Nat) : Int := match o with | some k => (k : Int) | none => -1
/-- What Deciding answers of a right word. -/
def decV (r : RU) (w : List UInt8) (z : Int) : Int × Int :=
  if 0 ≤ z ∧ z ≤ (w.length : Int) then (if lvOf r w z.toNat = 0 then (0, 12) else (decN (decTo (patsOf r) (low w) z.toNat (lvOf r w z.toNat) r.pats.length), 0)) else (0, 2)
theorem decTo_some (r : RU) (w : List UInt8) (i : Nat) (h : lvOf r w i ≠ 0) : ∃ k, decTo (patsOf r) (low w) i (lvOf r w i) r.pats.length = some k := by
  cases hd : decTo (patsOf r) (low w) i (lvOf r w i) r.pats.length with
  | some k => exact ⟨k, rfl⟩
  | none =>
    obtain ⟨j, hj, he⟩ := lvBy_found (patsOf r) (low w) i r.pats.length h
    exact absurd he (decTo_none hd j hj)
set_option maxRecDepth 100000 in
set_option maxHeartbeats 4000000 in
theorem indexPat_any (ps : List Pat) (PA : Option Addr) (pc : Nat) (s : ByteArray) (i : Nat) (lv : Int) (sb ib lb : Nat) (w : World) (hp : PaR w PA ps) (hok : ∀ k, k < ps.length → (ps.getD k Pat.zero).Ok) (hs : s.size ≤ 100) (hi : i ≤ s.size) (hc : DcH w sb ib lb s i lv) (hn : ps.length ≤ 1000) :
    Calls Tryz.prog 81 #[.slice PA ps.length pc, .func (.func 82) #[] #[.pointer (some ⟨sb, 0, none⟩), .pointer (some ⟨ib, 0, none⟩), .pointer (some ⟨lb, 0, none⟩)]] w (Ret (.int .i64 (decN (decTo ps (low s.data.toList) i lv ps.length))) w) := by
  have HP := Lib.hid hp; have HOK := Lib.hid hok; have HC := Lib.hid hc
  have hn9 : ps.length ≤ 9223372036854775807 := by omega
  clear hp hok hc
  go_enter Tryz.func81, Tryz.ntmps81
  go_upto_region 2 with fail
  go_loopw [8, 5] (fun v8 _ wr => ∃ k : Nat, k ≤ ps.length ∧ v8 = .int .i64 (k : Int) ∧ Hid (decTo ps (low s.data.toList) i lv k = none) ∧ Hid (Ext w wr)) (fun v8 _ _ => ps.length - (intOf v8).toNat)
  case atStart => exact ⟨0, Nat.zero_le _, rfl, Lib.hid rfl, Lib.hid (Ext.refl _)⟩
  case round =>
    obtain ⟨k, hk, rfl, HD, HX⟩ := hrel
    by_cases hlt : k < ps.length
    case neg =>
      obtain rfl : k = ps.length := by omega
      have ik : ¬ (ps.length : Int) < (ps.length : Int) := by omega
      have HE : Hid (decN (decTo ps (low s.data.toList) i lv ps.length) = -1) := Lib.hid (by rw [HD.out]; rfl)
      generalize decN (decTo ps (low s.data.toList) i lv ps.length) = out at *
      go_wp2
      go_ret
      exact Ret.mk' (by rw [HE.out]; rfl) HX.out
    case pos =>
      have ik : (k : Int) < (ps.length : Int) := by omega
      obtain ⟨pb, po, hPA, hpl, hpc⟩ := (HP.out.ext HX.out).at_ (by omega)
      subst hPA
      obtain ⟨p, c0, hpr⟩ := hpc k hlt
      have CD := Lib.hid fun W (hx : Ext wr W) => deciding1_any (ps.getD k Pat.zero) p s i lv sb ib lb W (HOK.out k hlt) hs hi (HC.out.ext (HX.out.trans hx)) (hpr.ext hx)
      have HN : Hid (decTo ps (low s.data.toList) i lv (k + 1) = if lvIn (ps.getD k Pat.zero) (low s.data.toList) i = lv then some k else none) := Lib.hid (by rw [decTo, HD.out])
      clear hpc hpr HD HOK
      generalize lvIn (ps.getD k Pat.zero) (low s.data.toList) i = x at *
      by_cases hx : x = lv
      case pos =>
        rw [decide_eq_true hx] at CD
        have HE : Hid (decN (decTo ps (low s.data.toList) i lv ps.length) = (k : Int)) := Lib.hid (by
          rw [if_pos hx] at HN
          rw [decTo_keep HN.out ps.length (by omega)]; rfl)
        generalize decN (decTo ps (low s.data.toList) i lv ps.length) = out at *
        clear hx HN
        go_wp2_with (first | (go_at_call 82; refine Calls.mono (CD.out _ (by repeat (first | exact Ext.refl _ | assumption | refine Ext.alloc ?_ _ | refine Ext.drew ?_ | refine Ext.drewN ?_ _ | (refine Ext.setCell ?_ (by simp <;> omega) _) | refine Ext.trans ?_ (by assumption)))) ?_; rintro e w1 ⟨rfl, hx1⟩; have HX1 := Lib.hid (HX.out.trans (Ext.trans (by repeat (first | exact Ext.refl _ | assumption | refine Ext.alloc ?_ _ | refine Ext.drew ?_ | refine Ext.drewN ?_ _ | (refine Ext.setCell ?_ (by simp <;> omega) _) | refine Ext.trans ?_ (by assumption))) hx1)); clear hx1))
        go_ret
        exact Ret.mk' (by rw [HE.out]; rfl) HX1.out
      case neg =>
        rw [decide_eq_false hx] at CD
        rw [if_neg hx] at HN
        clear hx
        go_wp2_with (first | (go_at_call 82; refine Calls.mono (CD.out _ (by repeat (first | exact Ext.refl _ | assumption | refine Ext.alloc ?_ _ | refine Ext.drew ?_ | refine Ext.drewN ?_ _ | (refine Ext.setCell ?_ (by simp <;> omega) _) | refine Ext.trans ?_ (by assumption)))) ?_; rintro e w1 ⟨rfl, hx1⟩; have HX1 := Lib.hid (HX.out.trans (Ext.trans (by repeat (first | exact Ext.refl _ | assumption | refine Ext.alloc ?_ _ | refine Ext.drew ?_ | refine Ext.drewN ?_ _ | (refine Ext.setCell ?_ (by simp <;> omega) _) | refine Ext.trans ?_ (by assumption))) hx1)); clear hx1))
        go_roundw
        case rel => exact ⟨k + 1, by omega, by go_num, HN, HX1⟩
        case measure => simp [intOf]; omega
def RetNE (n z : Int) (w : World) (e : Ending) (w' : World) : Prop := e = .returned (.tuple #[.int .i64 n, .int .i64 z]) ∧ Ext w w'
set_option maxRecDepth 100000 in
set_option maxHeartbeats 4000000 in
theorem rDeciding_any (r : RU) (a : RuA) (s : ByteArray) (z : Int) (w : World) (h : RuR w a r) (hs : ShortU r) (hR : patBad r.pats r.pats.length = none) (hz : s.size ≤ 100) :
    Calls Tryz.prog 36 #[r.val a, .string s, .int .i64 z] w (RetNE (decV r s.data.toList z).1 (decV r s.data.toList z).2 w) := by
  have CV := Lib.hid fun W (hx : Ext w W) => rLevelsOf_any r a s W (h.ext hx) hs hR hz
  have HRP := Lib.hid h.pats
  have HSP := Lib.hid hs.p
  have HLL : Hid (s.data.toList.length = s.size) := Lib.hid (by simp)
  have HPA : Hid (∀ k, k < r.pats.length → ∃ p, patOf (r.pats.getD k ByteArray.empty).data.toList = some p ∧ (patsOf r).getD k Pat.zero = p ∧ p.Ok) := Lib.hid fun k hk => by
    obtain ⟨p, hp⟩ := patBad_none hR k hk
    exact ⟨p, hp, by rw [patsOf_at hk, hp]; rfl, patOf_ok hp⟩
  have HDV : Hid (decV r s.data.toList z = if 0 ≤ z ∧ z ≤ (s.size : Int) then (if lvOf r s.data.toList z.toNat = 0 then (0, 12) else (decN (decTo (patsOf r) (low s.data.toList) z.toNat (lvOf r s.data.toList z.toNat) r.pats.length), 0)) else (0, 2)) := Lib.hid (by unfold decV; rw [HLL.out])
  have HDS := Lib.hid (decTo_some r s.data.toList z.toNat)
  have HLVA : Hid (∀ k, k ≤ s.size → (lvList r s.data.toList).getD k 0 = lvOf r s.data.toList k) := Lib.hid fun k hk => lvList_at r _ (by rw [HLL.out]; exact hk)
  have HLVN : Hid ((lvList r s.data.toList).length = s.size + 1) := Lib.hid (by rw [lvList_out, outF_len, HLL.out])
  have HLO : Hid ((low s.data.toList).length = s.size) := Lib.hid (by rw [low_len, HLL.out])
  clear h hs hR
  generalize decV r s.data.toList z = out at *
  generalize lvList r s.data.toList = ll at *
  unfold RU.val at CV ⊢
  by_cases hin : 0 ≤ z ∧ z ≤ (s.size : Int)
  case neg =>
    have HV : Hid (out = (0, 2)) := Lib.hid (by rw [HDV.out, if_neg hin])
    clear HDV HDS HPA
    go_enter Tryz.func36, Tryz.ntmps36
    go_wp2_with (first | (go_at_call 57; refine Calls.mono (bWithin_yes _ _ _ _ ?_) ?_; (omega); rintro e w1 ⟨rfl, rfl⟩) | (go_at_call 57; refine Calls.mono (bWithin_no _ _ _ _ ?_) ?_; (omega); rintro e w1 ⟨rfl, rfl⟩))
    go_ret2
    exact ⟨by rw [HV.out]; rfl, (by repeat (first | exact Ext.refl _ | assumption | refine Ext.alloc ?_ _ | refine Ext.drew ?_ | refine Ext.drewN ?_ _ | (refine Ext.setCell ?_ (by simp <;> omega) _) | refine Ext.trans ?_ (by assumption)))⟩
  case pos =>
    obtain ⟨i, rfl⟩ := Int.eq_ofNat_of_zero_le hin.1
    have hi : i ≤ s.size := by omega
    have i1 : (i : Int) < (s.size : Int) + 1 := by omega
    rw [if_pos hin, Int.toNat_natCast] at HDV
    rw [Int.toNat_natCast] at HDS
    have HLI := Lib.hid (HLVA.out i hi)
    clear HLVA
    generalize hlv : lvOf r s.data.toList i = lv at *
    clear hlv
    by_cases h0 : lv = 0
    case pos =>
      subst h0
      have HV : Hid (out = (0, 12)) := Lib.hid (by rw [HDV.out, if_pos rfl])
      clear HDV HDS HPA
      go_enter Tryz.func36, Tryz.ntmps36
      go_wp2_with (first | (go_at_call 57; refine Calls.mono (bWithin_yes _ _ _ _ ?_) ?_; (omega); rintro e w1 ⟨rfl, rfl⟩) | (go_at_call 57; refine Calls.mono (bWithin_no _ _ _ _ ?_) ?_; (omega); rintro e w1 ⟨rfl, rfl⟩) | (go_at_call 37; refine Calls.mono (CV.out _ (by repeat (first | exact Ext.refl _ | assumption | refine Ext.alloc ?_ _ | refine Ext.drew ?_ | refine Ext.drewN ?_ _ | (refine Ext.setCell ?_ (by simp <;> omega) _) | refine Ext.trans ?_ (by assumption)))) ?_; rintro e w4 ⟨A7, c7, he, hs7, hx4⟩; rw [HLVN.out] at he; subst he; obtain ⟨b7, o7, rfl, hl7, hc7⟩ := hs7.ri.2.2 (by rw [HLVN.out]; omega); have m7 := hc7 i (by rw [HLVN.out]; omega); rw [HLI.out] at m7; have HX4 := Lib.hid (Ext.trans (a := w) (by repeat (first | exact Ext.refl _ | assumption | refine Ext.alloc ?_ _ | refine Ext.drew ?_ | refine Ext.drewN ?_ _ | (refine Ext.setCell ?_ (by simp <;> omega) _) | refine Ext.trans ?_ (by assumption))) hx4); clear hs7 hx4 hc7))
      go_ret2
      exact ⟨by rw [HV.out]; rfl, HX4.out⟩
    case neg =>
      obtain ⟨kk, hkk⟩ := HDS.out h0
      have HKK := Lib.hid hkk
      have HV : Hid (out = ((kk : Int), 0)) := Lib.hid (by rw [HDV.out, if_neg h0, hkk]; rfl)
      have b0 : (lv == 0) = false := by rw [beq_eq_false_iff_ne]; exact h0
      clear HDV HDS hkk
      have hb1 := HRP.out.2.1
      go_enter Tryz.func36, Tryz.ntmps36
      go_upto_region 1 with fail
      have HB := Lib.hid (Blk.new w 24 #[.slice a.pa r.pats.length a.pc, .slice a.ea r.excs.length a.ec, .slice a.ba r.bars.length a.bc, .int .i64 r.left, .int .i64 r.right])
      have HX0 : Hid (Ext w (w.alloc (.cells #[.slice a.pa r.pats.length a.pc, .slice a.ea r.excs.length a.ec, .slice a.ba r.bars.length a.bc, .int .i64 r.left, .int .i64 r.right] 24))) := Lib.hid ((Ext.refl w).alloc _)
      go_upto_region 7 with (first | (go_at_call 57; refine Calls.mono (bWithin_yes _ _ _ _ ?_) ?_; (omega); rintro e w1 ⟨rfl, rfl⟩) | (go_at_call 57; refine Calls.mono (bWithin_no _ _ _ _ ?_) ?_; (omega); rintro e w1 ⟨rfl, rfl⟩) | (go_at_call 37; refine Calls.mono (CV.out _ (by repeat (first | exact Ext.refl _ | assumption | refine Ext.alloc ?_ _ | refine Ext.drew ?_ | refine Ext.drewN ?_ _ | (refine Ext.setCell ?_ (by simp <;> omega) _) | refine Ext.trans ?_ (by assumption)))) ?_; rintro e w4 ⟨A7, c7, he, hs7, hx4⟩; rw [HLVN.out] at he; subst he; obtain ⟨b7, o7, rfl, hl7, hc7⟩ := hs7.ri.2.2 (by rw [HLVN.out]; omega); have m7 := hc7 i (by rw [HLVN.out]; omega); rw [HLI.out] at m7; have HX4 := Lib.hid hx4; clear hs7 hx4 hc7))
      have HB4 := Lib.hid (HB.out.ext HX4.out)
      have HXW := Lib.hid (HX0.out.trans HX4.out)
      clear m7 hl7 HB HX0 HX4
      generalize r.pats = l at *
      go_loopw [9, 10, 11] (fun v9 _ _ wr => ∃ k : Nat, k ≤ l.length ∧ v9 = .int .i64 (k : Int) ∧ Hid (decTo (patsOf r) (low s.data.toList) i lv k = none) ∧ Hid (Ext w4 wr)) (fun v9 _ _ _ => l.length - (intOf v9).toNat)
      case atStart => exact ⟨0, Nat.zero_le _, rfl, Lib.hid rfl, Lib.hid (Ext.refl _)⟩
      case round =>
        obtain ⟨k, hk, rfl, HD, HX⟩ := hrel
        have HB1 := Lib.hid (HB4.out.ext HX.out)
        have y0 := HB1.out.cell 0 _ rfl
        have yl := HB1.out.lt
        by_cases hlt : k < l.length
        case neg =>
          obtain rfl : k = l.length := by omega
          exact absurd (HD.out.symm.trans HKK.out) (by simp)
        case pos =>
          have ik : (k : Int) < (l.length : Int) := by omega
          have hszk := HSP.out.2 k hlt
          obtain ⟨b, off, hpa, hbw, hcell⟩ := (HRP.out.ext (HXW.out.trans HX.out)).2.2 (by omega)
          rw [hpa] at y0
          clear hpa
          have ck := hcell k hlt
          clear hcell
          obtain ⟨p, hp, hp2, hp3⟩ := HPA.out k hlt
          have HN : Hid (decTo (patsOf r) (low s.data.toList) i lv (k + 1) = if lvIn p (low s.data.toList) i = lv then some k else none) := Lib.hid (by rw [decTo, HD.out, hp2])
          have HOK := Lib.hid hp3
          have CP := Lib.hid fun W => readPattern_yes (l.getD k ByteArray.empty) p W (by omega) hp
          have HLN : Hid ((lvListIn p (low s.data.toList)).length = s.size + 1) := Lib.hid (by rw [lvListIn_len, HLO.out])
          have HLA : Hid ((lvListIn p (low s.data.toList)).getD i 0 = lvIn p (low s.data.toList) i) := Lib.hid (lvListIn_at _ _ (by rw [HLO.out]; exact hi))
          have HLB : Hid ((levsL p).length ≤ 140737488351232) := Lib.hid (by
            rw [levsL_len]
            have h0 := hp3.len; have h3 := hp3.hi
            have h1 : fN p ≤ 1 := by unfold fN; split <;> omega
            have h2 : eN p ≤ 1 := by unfold eN; split <;> omega
            omega)
          generalize l.getD k ByteArray.empty = t at *
          generalize lvIn p (low s.data.toList) i = x at *
          clear hp hp2 hp3 hszk HPA
          by_cases hx : x = lv
          case pos =>
            rw [if_pos hx] at HN
            subst hx
            go_upto_region 10 with (first | (go_at_call 85; refine Calls.mono (CP.out _) ?_; rintro e w1 ⟨A1, c1, rfl, ho1, hx⟩; have HX1 := Lib.hid hx; have HRI1 := Lib.hid (Own.ri ho1 HLB.out); have hz1 := hx.size; clear hx ho1))
            go_wp2_with (first | (go_at_call 86; refine Calls.mono (rLevels_any p A1 c1 s _ HOK.out (HRI1.out.ext (by repeat (first | exact Ext.refl _ | assumption | refine Ext.alloc ?_ _ | refine Ext.drew ?_ | refine Ext.drewN ?_ _ | (refine Ext.setCell ?_ (by simp <;> omega) _) | refine Ext.trans ?_ (by assumption)))) (by omega)) ?_; rintro e w3 ⟨A5, c5, he, hsl, hx⟩; rw [HLN.out] at he; subst he; obtain ⟨b5, o5, rfl, hl5, hc5⟩ := hsl.ri.2.2 (by rw [HLN.out]; omega); have m5 := hc5 i (by rw [HLN.out]; omega); rw [HLA.out] at m5; have HX3 := Lib.hid (HX.out.trans (HX1.out.trans (Ext.trans (by repeat (first | exact Ext.refl _ | assumption | refine Ext.alloc ?_ _ | refine Ext.drew ?_ | refine Ext.drewN ?_ _ | (refine Ext.setCell ?_ (by simp <;> omega) _) | refine Ext.trans ?_ (by assumption))) hx))); clear hsl hx hc5))
            go_ret2
            have hk2 := decTo_keep HN.out l.length (by omega)
            rw [HKK.out] at hk2
            cases hk2
            exact ⟨by rw [HV.out]; rfl, HXW.out.trans HX3.out⟩
          case neg =>
            have bx : (x == lv) = false := by rw [beq_eq_false_iff_ne]; exact hx
            rw [if_neg hx] at HN
            clear hx
            go_upto_region 10 with (first | (go_at_call 85; refine Calls.mono (CP.out _) ?_; rintro e w1 ⟨A1, c1, rfl, ho1, hx⟩; have HX1 := Lib.hid hx; have HRI1 := Lib.hid (Own.ri ho1 HLB.out); have hz1 := hx.size; clear hx ho1))
            go_wp2_with (first | (go_at_call 86; refine Calls.mono (rLevels_any p A1 c1 s _ HOK.out (HRI1.out.ext (by repeat (first | exact Ext.refl _ | assumption | refine Ext.alloc ?_ _ | refine Ext.drew ?_ | refine Ext.drewN ?_ _ | (refine Ext.setCell ?_ (by simp <;> omega) _) | refine Ext.trans ?_ (by assumption)))) (by omega)) ?_; rintro e w3 ⟨A5, c5, he, hsl, hx⟩; rw [HLN.out] at he; subst he; obtain ⟨b5, o5, rfl, hl5, hc5⟩ := hsl.ri.2.2 (by rw [HLN.out]; omega); have m5 := hc5 i (by rw [HLN.out]; omega); rw [HLA.out] at m5; have HX3 := Lib.hid (HX.out.trans (HX1.out.trans (Ext.trans (by repeat (first | exact Ext.refl _ | assumption | refine Ext.alloc ?_ _ | refine Ext.drew ?_ | refine Ext.drewN ?_ _ | (refine Ext.setCell ?_ (by simp <;> omega) _) | refine Ext.trans ?_ (by assumption))) hx))); clear hsl hx hc5))
            go_roundw
            case rel => exact ⟨k + 1, by omega, by go_num, HN, HX3⟩
            case measure => simp [intOf]; omega
end Go.Proofs.YtccdnieoaejgdaaGreatDoor
namespace Go.Proofs.YtccdnieoaejgdaaGreatDoor
open Go.RowKit Go.Lib
attribute [local go_sem] stateAt vu known List.map_cons List.map_nil Option.getD_some

def RdAt (n i : Nat) (x : Int) (v : Value) (W : World) : Prop := ∃ b off c, v = .slice (some ⟨b, off, none⟩) n c ∧ b < W.heap.size ∧ W.cell? ⟨b, off + i, none⟩ = some (.int .i64 x)
def RdCell (i : Nat) (x : Int) (v : Value) (W : World) : Prop := ∃ b off, v = .pointer (some ⟨b, off + i, none⟩) ∧ b < W.heap.size ∧ W.cell? ⟨b, off + i, none⟩ = some (.int .i64 x)
/-- A cell of the call's own, new until it is stored into. -/
def NwI (w0 : World) (b : Bool) (v : Value) (W : World) : Prop := ∃ g, v = .pointer (some ⟨g, 0, none⟩) ∧ (b = false → Blk W g 3 #[.int .i64 0]) ∧ w0.heap.size ≤ g
structure Dc6 (w0 : World) (lv : Int) (U : Nat → Value) (b : Bool) (W : World) : Prop where
  ext : Ext w0 W
  st : b = true → ∃ g, U 6 = .pointer (some ⟨g, 0, none⟩) ∧ Blk W g 3 #[.int .i64 lv] ∧ w0.heap.size ≤ g
section
variable {w0 W W' : World} {n i g : Nat} {x lv : Int} {v u : Value} {U U' : Nat → Value} {b : Bool}
theorem RdAt.ext (h : RdAt n i x v W) (hx : Ext W W') : RdAt n i x v W' := let ⟨b, off, c, h1, h2, h3⟩ := h; ⟨b, off, c, h1, Nat.lt_of_lt_of_le h2 hx.size, (hx.cell (p := ⟨b, off + i, none⟩) h2).trans h3⟩
theorem RdCell.ext (h : RdCell i x v W) (hx : Ext W W') : RdCell i x v W' := let ⟨b, off, h1, h2, h3⟩ := h; ⟨b, off, h1, Nat.lt_of_lt_of_le h2 hx.size, (hx.cell (p := ⟨b, off + i, none⟩) h2).trans h3⟩
theorem NwI.ext (h : NwI w0 b v W) (hx : Ext W W') : NwI w0 b v W' := let ⟨g, h1, h2, h3⟩ := h; ⟨g, h1, fun e => (h2 e).ext hx, h3⟩
theorem NwI.done (h : NwI w0 b v W) : NwI w0 true v W' := let ⟨g, h1, _, h3⟩ := h; ⟨g, h1, fun e => (by cases e), h3⟩
theorem Dc6.next (h : Dc6 w0 lv U b W) (hx : Ext W W') : Dc6 w0 lv U b W' := ⟨h.ext.trans hx, fun e => let ⟨g, h1, h2, h3⟩ := h.st e; ⟨g, h1, h2.ext hx, h3⟩⟩
theorem Dc6.turn (h : Dc6 w0 lv U b W) (h6 : b = true → U 6 = U' 6) : Dc6 w0 lv U' b W := ⟨h.ext, fun e => by rw [← h6 e]; exact h.st e⟩
theorem Dc6.sto (h : Dc6 w0 lv U false W) (he : U 6 = .pointer (some ⟨g, 0, none⟩)) (hb : Blk W g 3 #[.int .i64 0]) (hg : w0.heap.size ≤ g) : Dc6 w0 lv (upd U 7 u) true (W.setCell ⟨g, 0, none⟩ (.int .i64 lv)) :=
  ⟨h.ext.setCell (p := ⟨g, 0, none⟩) hg _, fun _ => ⟨g, he, hb.set_ 0 _, hg⟩⟩
end
set_option maxRecDepth 100000 in
set_option maxHeartbeats 4000000 in
theorem Deciding_any (r : RU) (a : RuA) (s : ByteArray) (z : Int) (w : World) (hr : RuR w a r) (hs : ShortU r) (hz : s.size ≤ 1000000) :
    Calls Tryz.prog 35 #[r.val a, .string s, .int .i64 z] w (RetNE (if ruledE r s = 0 then (decV r s.data.toList z).1 else 0) (if ruledE r s = 0 then (decV r s.data.toList z).2 else ruledE r s) w) := by
  have HR := Lib.hid hr
  have CR := Lib.hid fun W (h : RuR W a r) => ruled_any r a s W h hs hz
  have HLL : Hid (s.data.toList.length = s.size) := Lib.hid (by simp)
  clear hr hs
  unfold RU.val at CR ⊢
  have HCB : Hid (∀ W, Ext (((w.alloc (.cells #[.slice a.pa r.pats.length a.pc, .slice a.ea r.excs.length a.ec, .slice a.ba r.bars.length a.bc, .int .i64 r.left, .int .i64 r.right] 24)).alloc (.cells #[.string s] 9)).alloc (.cells #[.int .i64 z] 3)) W → (W.cell? ⟨w.heap.size + 1, 0, none⟩ = some (.string s) ∧ w.heap.size + 1 < W.heap.size) ∧ (W.cell? ⟨w.heap.size + 1 + 1, 0, none⟩ = some (.int .i64 z) ∧ w.heap.size + 1 + 1 < W.heap.size)) := Lib.hid fun W hx => by
    have h1 := ((Blk.new1 w (.cells #[.slice a.pa r.pats.length a.pc, .slice a.ea r.excs.length a.ec, .slice a.ba r.bars.length a.bc, .int .i64 r.left, .int .i64 r.right] 24) 9 #[.string s]).alloc (.cells #[.int .i64 z] 3)).ext hx
    have h2 := (Blk.new2 w (.cells #[.slice a.pa r.pats.length a.pc, .slice a.ea r.excs.length a.ec, .slice a.ba r.bars.length a.bc, .int .i64 r.left, .int .i64 r.right] 24) (.cells #[.string s] 9) 3 #[.int .i64 z]).ext hx
    exact ⟨⟨h1.cell 0 _ rfl, h1.lt⟩, ⟨h2.cell 0 _ rfl, h2.lt⟩⟩
  have HXB : Hid (Ext w (((w.alloc (.cells #[.slice a.pa r.pats.length a.pc, .slice a.ea r.excs.length a.ec, .slice a.ba r.bars.length a.bc, .int .i64 r.left, .int .i64 r.right] 24)).alloc (.cells #[.string s] 9)).alloc (.cells #[.int .i64 z] 3))) := Lib.hid (by repeat (first | exact Ext.refl _ | assumption | refine Ext.alloc ?_ _ | refine Ext.drew ?_ | refine Ext.drewN ?_ _ | (refine Ext.setCell ?_ (by simp <;> omega) _) | refine Ext.trans ?_ (by assumption)))
  by_cases h0 : ruledE r s = 0
  case neg =>
    rw [if_neg h0, if_neg h0]
    have H0 := Lib.hid h0
    have b0 : (ruledE r s != 0) = true := by simpa using h0
    go_enter Tryz.func35, Tryz.ntmps35
    go_wp2_with (first | (go_at_call 62; refine Calls.mono (CR.out _ (HR.out.ext (by repeat (first | exact Ext.refl _ | assumption | refine Ext.alloc ?_ _ | refine Ext.drew ?_ | refine Ext.drewN ?_ _ | (refine Ext.setCell ?_ (by simp <;> omega) _) | refine Ext.trans ?_ (by assumption))))) ?_; rintro e w1 (⟨hn, _⟩ | ⟨_, p, rfl, hx⟩); (exact absurd hn H0.out); have HX1 := Lib.hid (HXB.out.trans (Ext.trans (by repeat (first | exact Ext.refl _ | assumption | refine Ext.alloc ?_ _ | refine Ext.drew ?_ | refine Ext.drewN ?_ _ | (refine Ext.setCell ?_ (by simp <;> omega) _) | refine Ext.trans ?_ (by assumption))) hx)); clear hx))
    go_ret2
    exact ⟨rfl, HX1.out⟩
  case pos =>
    rw [if_pos h0, if_pos h0]
    have H0 := Lib.hid h0
    have HSZ := Lib.hid (ruledE_size h0)
    clear h0
    have HDV : Hid (decV r s.data.toList z = if 0 ≤ z ∧ z ≤ (s.size : Int) then (if lvOf r s.data.toList z.toNat = 0 then (0, 12) else (decN (decTo (patsOf r) (low s.data.toList) z.toNat (lvOf r s.data.toList z.toNat) r.pats.length), 0)) else (0, 2)) := Lib.hid (by unfold decV; rw [HLL.out])
    generalize decV r s.data.toList z = out at *
    by_cases hin : 0 ≤ z ∧ z ≤ (s.size : Int)
    case neg =>
      have HV : Hid (out = (0, 2)) := Lib.hid (by rw [HDV.out, if_neg hin])
      clear HDV
      go_enter Tryz.func35, Tryz.ntmps35
      go_wp2_with (first | (go_at_call 62; refine Calls.mono (CR.out _ (HR.out.ext (by repeat (first | exact Ext.refl _ | assumption | refine Ext.alloc ?_ _ | refine Ext.drew ?_ | refine Ext.drewN ?_ _ | (refine Ext.setCell ?_ (by simp <;> omega) _) | refine Ext.trans ?_ (by assumption))))) ?_; rintro e w1 (⟨_, rb, PA, pc, me, mb, ne, nb, rfl, hrl, hx⟩ | ⟨hn, _⟩); rotate_left 1; (exact absurd H0.out hn); have HRL := Lib.hid hrl; have HX1 := Lib.hid hx; obtain ⟨⟨y1, l1⟩, ⟨y2, l2⟩⟩ := HCB.out _ hx; clear hrl hx) | (go_at_call 80; refine Calls.mono (tWithin_yes _ _ _ _ ?_) ?_; (omega); rintro e w2 ⟨rfl, rfl⟩) | (go_at_call 80; refine Calls.mono (tWithin_no _ _ _ _ ?_) ?_; (omega); rintro e w2 ⟨rfl, rfl⟩))
      go_ret2
      exact ⟨by rw [HV.out]; rfl, HXB.out.trans HX1.out⟩
    case pos =>
      obtain ⟨i, rfl⟩ := Int.eq_ofNat_of_zero_le hin.1
      have hi : i ≤ s.size := by omega
      have i1 : (i : Int) < (s.size : Int) + 1 := by omega
      have i2 : i < s.size + 1 := by omega
      rw [if_pos hin, Int.toNat_natCast] at HDV
      have hs30 := HSZ.out
      have HLVA : Hid ((lvList r s.data.toList).getD i 0 = lvOf r s.data.toList i) := Lib.hid (lvList_at r _ (by rw [HLL.out]; exact hi))
      have HLVN : Hid ((lvList r s.data.toList).length = s.size + 1) := Lib.hid (by rw [lvList_out, outF_len, HLL.out])
      go_enter Tryz.func35, Tryz.ntmps35
      go_upto_region 6 with (first | (go_at_call 62; refine Calls.mono (CR.out _ (HR.out.ext (by repeat (first | exact Ext.refl _ | assumption | refine Ext.alloc ?_ _ | refine Ext.drew ?_ | refine Ext.drewN ?_ _ | (refine Ext.setCell ?_ (by simp <;> omega) _) | refine Ext.trans ?_ (by assumption))))) ?_; rintro e w1 (⟨_, rb, PA, pc, me, mb, ne, nb, rfl, hrl, hx⟩ | ⟨hn, _⟩); rotate_left 1; (exact absurd H0.out hn); have HRL := Lib.hid hrl; have HX1 := Lib.hid hx; obtain ⟨⟨y1, l1⟩, ⟨y2, l2⟩⟩ := HCB.out _ hx; clear hrl hx) | (go_at_call 80; refine Calls.mono (tWithin_yes _ _ _ _ ?_) ?_; (omega); rintro e w2 ⟨rfl, rfl⟩) | (go_at_call 80; refine Calls.mono (tWithin_no _ _ _ _ ?_) ?_; (omega); rintro e w2 ⟨rfl, rfl⟩))
      have CL : Hid (∀ W, Ext w1 W → Calls Tryz.prog 78 #[.pointer (some ⟨rb, 0, none⟩), .string s] W (RetAt (s.size + 1) i (lvOf r s.data.toList i) W)) := Lib.hid fun W hx => by
        refine (levels_any r a PA rb pc me mb ne nb s W (HRL.out.ext hx) (by omega)).mono fun e w' h => ?_
        have h2 := RetS.at_ (i := i) (by rw [HLVN.out]; omega) h
        rwa [HLVN.out, HLVA.out] at h2
      have HCC : Hid (∀ W, Ext w1 W → (W.cell? ⟨w.heap.size + 1, 0, none⟩ = some (.string s) ∧ w.heap.size + 1 < W.heap.size) ∧ (W.cell? ⟨w.heap.size + 1 + 1, 0, none⟩ = some (.int .i64 (i : Int)) ∧ w.heap.size + 1 + 1 < W.heap.size)) := Lib.hid fun W hx => HCB.out W (HX1.out.trans hx)
      have HXW := Lib.hid (HXB.out.trans HX1.out)
      clear y1 l1 y2 l2 HCB HX1 CR HLVA HLVN
      generalize hlv : lvOf r s.data.toList i = lv at *
      clear hlv
      obtain ⟨w0, hw0⟩ : ∃ w0, w0 = w1 := ⟨_, rfl⟩
      rw [← hw0] at CL HCC HXW HRL ⊢
      clear hw0
      refine wp_region_sv [7] [some (.pointer (some ⟨rb, 0, none⟩)), some (.string s), none, some (.int .i64 (i : Int)), none, some (.int .i64 lv), none, some (undef)] (fun k v fl W => (k = 2 → (fun (v : Value) (fl : List Bool) (W : World) => fl.getD 0 false = false → RdAt (s.size + 1) i lv v W) v fl W) ∧ (k = 4 → (fun (v : Value) (fl : List Bool) (W : World) => fl.getD 0 false = false → RdCell i lv v W) v fl W) ∧ (k = 6 → (fun (v : Value) (fl : List Bool) (W : World) => NwI w0 (fl.getD 0 false) v W) v fl W)) (fun U fl W => Dc6 w0 lv U (fl.getD 0 false) W) (fun j k v u => True) (by kernel_rfl) (by kernel_rfl) rfl (by decide) (fun U fl W W' h hx => h.next hx) (fun U U' fl W hl hq h => (by obtain ⟨f0, rfl⟩ := flen1 hl; exact Dc6.turn h (fun e => hq 0 (by decide) e 6 (by kernel_rfl)))) (fun k v fl W W' h hx => ⟨fun e => fun h0 => (((h.1 e)) h0).ext hx, fun e => fun h0 => (((h.2.1 e)) h0).ext hx, fun e => NwI.ext ((h.2.2 e)) hx⟩) (fun U => ⟨(by repeat (first | exact Ext.refl _ | assumption | refine Ext.alloc ?_ _ | refine Ext.drew ?_ | refine Ext.drewN ?_ _ | (refine Ext.setCell ?_ (by simp <;> omega) _) | refine Ext.trans ?_ (by assumption))), fun e => (by cases e)⟩) ⟨?_, ?_, ?_, ?_, ?_, ?_, ?_, ?_, trivial⟩ ?_
      · intro U fl W hS hl hn hd hR hrr
        obtain ⟨f0, rfl⟩ := flen1 hl
        obtain rfl : f0 = false := hn 0 (by decide) (by kernel_rfl)
        clear hR hl hn hd hrr
        have hT : Dc6 w0 lv U _ W := hS; clear hS
        refine StepZ.go rfl ?_
        go_simp
        exact ⟨TurnV.ext rfl (by repeat (first | exact Ext.refl _ | assumption | refine Ext.alloc ?_ _ | refine Ext.drew ?_ | refine Ext.drewN ?_ _ | (refine Ext.setCell ?_ (by simp <;> omega) _) | refine Ext.trans ?_ (by assumption))), givesS_k (by kernel_rfl), (RelS.of fun j9 v9 hj9 hk9 hp9 => ⟨trivial, trivial⟩)⟩
      · intro U fl W hS hl hn hd hR hrr
        obtain ⟨f0, rfl⟩ := flen1 hl
        obtain rfl : f0 = false := hn 0 (by decide) (by kernel_rfl)
        clear hR hl hn hd hrr
        have hT : Dc6 w0 lv U _ W := hS; clear hS
        obtain ⟨⟨y1, l1⟩, ⟨y2, l2⟩⟩ := HCC.out W hT.ext
        refine StepZ.go rfl ?_
        go_simp
        exact ⟨TurnV.ext rfl (by repeat (first | exact Ext.refl _ | assumption | refine Ext.alloc ?_ _ | refine Ext.drew ?_ | refine Ext.drewN ?_ _ | (refine Ext.setCell ?_ (by simp <;> omega) _) | refine Ext.trans ?_ (by assumption))), givesS_k (by kernel_rfl), (RelS.of fun j9 v9 hj9 hk9 hp9 => ⟨trivial, trivial⟩)⟩
      · intro U fl W hS hl hn hd hR hrr
        obtain ⟨f0, rfl⟩ := flen1 hl
        obtain rfl : f0 = false := hn 0 (by decide) (by kernel_rfl)
        clear hR hl hn hd hrr
        have hT : Dc6 w0 lv U _ W := hS; clear hS
        refine StepZ.go rfl ?_
        go_simp
        refine Calls.mono (CL.out _ hT.ext) ?_; rintro e w1 ⟨b, off, c, rfl, h2, h3, hb⟩; exact ⟨_, rfl, TurnV.ext rfl hb, givesS_e (by kernel_rfl) ⟨fun _ => fun _ => ⟨b, off, c, rfl, h2, h3⟩, fun e => absurd e (by decide), fun e => absurd e (by decide)⟩, (RelS.of fun j9 v9 hj9 hk9 hp9 => ⟨trivial, trivial⟩)⟩
      · intro U fl W hS hl hn hd hR hrr
        obtain ⟨f0, rfl⟩ := flen1 hl
        obtain rfl : f0 = false := hn 0 (by decide) (by kernel_rfl)
        clear hR hl hn hd hrr
        have hT : Dc6 w0 lv U _ W := hS; clear hS
        obtain ⟨⟨y1, l1⟩, ⟨y2, l2⟩⟩ := HCC.out W hT.ext
        refine StepZ.go rfl ?_
        go_simp
        exact ⟨TurnV.ext rfl (by repeat (first | exact Ext.refl _ | assumption | refine Ext.alloc ?_ _ | refine Ext.drew ?_ | refine Ext.drewN ?_ _ | (refine Ext.setCell ?_ (by simp <;> omega) _) | refine Ext.trans ?_ (by assumption))), givesS_k (by kernel_rfl), (RelS.of fun j9 v9 hj9 hk9 hp9 => ⟨trivial, trivial⟩)⟩
      · intro U fl W hS hl hn hd hR hrr
        obtain ⟨f0, rfl⟩ := flen1 hl
        obtain rfl : f0 = false := hn 0 (by decide) (by kernel_rfl)
        have r2 := (hR 2 (by decide) (by kernel_rfl)).1 rfl; obtain ⟨b2, o2, c2, e2_, l2, m2⟩ := r2 rfl
        clear hR hl hn hd hrr
        have hT : Dc6 w0 lv U _ W := hS; clear hS
        (try rw [e2_])
        refine StepZ.go rfl ?_
        go_simp
        exact ⟨TurnV.ext rfl (by repeat (first | exact Ext.refl _ | assumption | refine Ext.alloc ?_ _ | refine Ext.drew ?_ | refine Ext.drewN ?_ _ | (refine Ext.setCell ?_ (by simp <;> omega) _) | refine Ext.trans ?_ (by assumption))), givesS_e (by kernel_rfl) ⟨fun e => absurd e (by decide), fun _ => fun _ => ⟨b2, o2, rfl, l2, m2⟩, fun e => absurd e (by decide)⟩, (RelS.of fun j9 v9 hj9 hk9 hp9 => ⟨trivial, trivial⟩)⟩
      · intro U fl W hS hl hn hd hR hrr
        obtain ⟨f0, rfl⟩ := flen1 hl
        obtain rfl : f0 = false := hn 0 (by decide) (by kernel_rfl)
        have r4 := (hR 4 (by decide) (by kernel_rfl)).2.1 rfl; obtain ⟨b4, o4, e4_, l4, m4⟩ := r4 rfl
        clear hR hl hn hd hrr
        have hT : Dc6 w0 lv U _ W := hS; clear hS
        (try rw [e4_])
        refine StepZ.go rfl ?_
        go_simp
        exact ⟨TurnV.ext rfl (by repeat (first | exact Ext.refl _ | assumption | refine Ext.alloc ?_ _ | refine Ext.drew ?_ | refine Ext.drewN ?_ _ | (refine Ext.setCell ?_ (by simp <;> omega) _) | refine Ext.trans ?_ (by assumption))), givesS_k (by kernel_rfl), (RelS.of fun j9 v9 hj9 hk9 hp9 => ⟨trivial, trivial⟩)⟩
      · intro U fl W hS hl hn hd hR hrr
        obtain ⟨f0, rfl⟩ := flen1 hl
        obtain rfl : f0 = false := hn 0 (by decide) (by kernel_rfl)
        clear hR hl hn hd hrr
        have hT : Dc6 w0 lv U _ W := hS; clear hS
        refine StepZ.go rfl ?_
        go_simp
        exact ⟨TurnV.ext rfl (by repeat (first | exact Ext.refl _ | assumption | refine Ext.alloc ?_ _ | refine Ext.drew ?_ | refine Ext.drewN ?_ _ | (refine Ext.setCell ?_ (by simp <;> omega) _) | refine Ext.trans ?_ (by assumption))), givesS_e (by kernel_rfl) ⟨fun e => absurd e (by decide), fun e => absurd e (by decide), fun _ => ⟨_, rfl, fun _ => Blk.new W _ _, hT.ext.size⟩⟩, (RelS.of fun j9 v9 hj9 hk9 hp9 => ⟨trivial, trivial⟩)⟩
      · intro U fl W hS hl hn hd hR hrr
        obtain ⟨f0, rfl⟩ := flen1 hl
        obtain rfl : f0 = false := hn 0 (by decide) (by kernel_rfl)
        have r6 := (hR 6 (by decide) (by kernel_rfl)).2.2 rfl; obtain ⟨g6, e6_, hb6, hg6⟩ := r6
        clear hR hl hn hd hrr
        have hT : Dc6 w0 lv U _ W := hS; clear hS
        have hb6 := hb6 rfl; (try rw [e6_]); have y1 := hb6.cell 0 _ rfl; have yl := hb6.lt; have yf := hb6.frozen 0
        refine StepZ.go rfl ?_
        go_simp
        exact ⟨rfl, TurnV.sp rfl (Dc6.sto hT e6_ hb6 hg6) (fun k9 v9 hk9 h9 hr9 => ⟨fun e => by subst e; exact (fun h0 => absurd (show true = false from h0) (by decide)), fun e => by subst e; exact (fun h0 => absurd (show true = false from h0) (by decide)), fun e => by subst e; exact (NwI.done ((h9.2.2 rfl)))⟩), givesS_k (by kernel_rfl), (RelS.of fun j9 v9 hj9 hk9 hp9 => ⟨trivial, trivial⟩)⟩
      · intro U W hS hR hRR
        clear hRR
        have r6 := (hR 6 (by decide) (by kernel_rfl)).2.2 rfl; obtain ⟨g6, e6_, hb6, hg6⟩ := r6
        clear hR
        have hT : Dc6 w0 lv U true W := hS; clear hS
        simp only [putAll, vu, Act.put, List.setIfInBounds_toArray, List.set_cons_zero, List.set_cons_succ]
        (try simp only [e6_])
        obtain ⟨g, hg1, hg2, hg3⟩ := hT.st rfl
        rw [e6_] at hg1
        obtain rfl : g6 = g := by simpa using hg1
        have HX6 := Lib.hid hT.ext
        have HG := Lib.hid hg2
        have yg := hg2.cell 0 _ rfl; have ygl := hg2.lt
        have HRB := Lib.hid (HRL.out.ext hT.ext)
        have hbk := HRB.out.blk
        have y5 := hbk.cell 5 _ rfl; have y5l := hbk.lt
        clear hT hb6 hg1 hg2 hbk CL
        by_cases hl0 : lv = 0
        case pos =>
          subst hl0
          have HV : Hid (out = (0, 12)) := Lib.hid (by rw [HDV.out, if_pos rfl])
          clear HDV
          go_wp2
          go_ret2
          exact ⟨by rw [HV.out]; rfl, HXW.out.trans HX6.out⟩
        case neg =>
          have b0 : (lv == 0) = false := by rw [beq_eq_false_iff_ne]; exact hl0
          have HV : Hid (out = (decN (decTo (patsOf r) (low s.data.toList) i lv r.pats.length), 0)) := Lib.hid (by rw [HDV.out, if_neg hl0])
          obtain ⟨⟨q1, q1l⟩, ⟨q2, q2l⟩⟩ := HCC.out W HX6.out
          have HDC : Hid (DcH W (w.heap.size + 1) (w.heap.size + 1 + 1) g6 s i lv) := Lib.hid ⟨⟨q1, q1l⟩, ⟨q2, q2l⟩, ⟨yg, ygl⟩⟩
          have CI : Hid (∀ X, Ext W X → Calls Tryz.prog 81 #[.slice PA r.pats.length pc, .func (.func 82) #[] #[.pointer (some ⟨w.heap.size + 1, 0, none⟩), .pointer (some ⟨w.heap.size + 1 + 1, 0, none⟩), .pointer (some ⟨g6, 0, none⟩)]] X (Ret (.int .i64 (decN (decTo (patsOf r) (low s.data.toList) i lv r.pats.length))) X)) := Lib.hid fun X hx => by
            have hR := RightU.of HRB.out.ok
            have h := indexPat_any (patsOf r) PA pc s i lv (w.heap.size + 1) (w.heap.size + 1 + 1) g6 X (HRB.out.pats.ext hx) (fun k hk => hR.patOk (by rwa [patsOf_len] at hk)) (by omega) hi (HDC.out.ext hx) (by rw [patsOf_len]; have := hR.np; omega)
            rwa [patsOf_len] at h
          clear HDV HDC q1 q1l q2 q2l HG HRB HRL
          generalize decN (decTo (patsOf r) (low s.data.toList) i lv r.pats.length) = dn at *
          go_wp2_with (first | (go_at_call 81; refine Calls.mono (CI.out _ (by repeat (first | exact Ext.refl _ | assumption | refine Ext.alloc ?_ _ | refine Ext.drew ?_ | refine Ext.drewN ?_ _ | (refine Ext.setCell ?_ (by simp <;> omega) _) | refine Ext.trans ?_ (by assumption)))) ?_; rintro e w5 ⟨rfl, hx⟩; have HX7 := Lib.hid (Ext.trans (a := W) (by repeat (first | exact Ext.refl _ | assumption | refine Ext.alloc ?_ _ | refine Ext.drew ?_ | refine Ext.drewN ?_ _ | (refine Ext.setCell ?_ (by simp <;> omega) _) | refine Ext.trans ?_ (by assumption))) hx); clear hx))
          go_ret2
          exact ⟨by rw [HV.out]; rfl, (HXW.out.trans HX6.out).trans HX7.out⟩
end Go.Proofs.YtccdnieoaejgdaaGreatDoor
