/-
  Walk: the levels of a word by one pattern (the reference's levels).
-/
import Derived.Test.YtccdnieoaejgdaaGreatDoorT2BJ
import Derived.Test.YtccdnieoaejgdaaGreatDoorT2AC
set_option linter.unusedVariables false
set_option linter.unusedSimpArgs false
set_option linter.unusedSectionVars false
namespace Go.Proofs.YtccdnieoaejgdaaGreatDoor
open Go.RowKit Go.Lib

theorem dotted_str (L : List UInt8) : ((⟨#[46]⟩ : ByteArray) ++ strL L) ++ (⟨#[46]⟩ : ByteArray) = strL (dotted L) := by
  show (strL [46] ++ strL L) ++ strL [46] = _
  rw [strL_append, strL_append]; rfl
theorem lvListIn_out (p : Pat) (L : List UInt8) : lvListIn p L = outF L.length (lvIn p L) := rfl
/-- What holds while the levels are laid. -/
structure RlS (w : World) (p : Pat) (A : Option Addr) (c g m : Nat) (F : Nat → Int) (W : World) : Prop where
  ext : Ext w W
  bx : Blk W w.heap.size 139 #[.string (strL (itemsL p)), .slice A (levsL p).length c]
  lo : g = w.heap.size + 1
  sl : SL W g (some ⟨g, 0, none⟩) (m + 1) (outF m F)
section
variable {w W W' : World} {p : Pat} {A : Option Addr} {c g m : Nat} {F G : Nat → Int}
theorem RlS.next (h : RlS w p A c g m F W) (hx : Ext W W') : RlS w p A c g m F W' := ⟨h.ext.trans hx, h.bx.ext hx, h.lo, h.sl.ext hx⟩
theorem RlS.put (h : RlS w p A c g m F W) (hm : m ≤ 100000) {i : Nat} (hi : i ≤ m) (z : Int) (hG : ∀ k, G k = if k = i then z else F k) : RlS w p A c g m G (W.setCell ⟨g, i, none⟩ (.int .i64 z)) := by
  have hl := h.lo
  obtain rfl : G = fun k => if k = i then z else F k := funext hG
  refine ⟨h.ext.setCell (p := ⟨g, i, none⟩) (by simp only; omega) _, h.bx.far (p := ⟨g, i, none⟩) (by simp only; omega) _, hl, ?_⟩
  rw [← outF_set m F z hi]
  exact h.sl.put_ (by rw [outF_len]; omega) i z
theorem RlS.at_ (h : RlS w p A c g m F W) {i : Nat} (hi : i ≤ m) : W.cell? ⟨g, i, none⟩ = some (.int .i64 (F i)) ∧ W.frozen? ⟨g, i, none⟩ = false ∧ g < W.heap.size := by
  have h1 := h.sl.at_ (k := i) (by rw [outF_len]; omega)
  rwa [outF_at m F hi] at h1
end
set_option maxRecDepth 100000 in
set_option maxHeartbeats 8000000 in
theorem rLevels_any (p : Pat) (A : Option Addr) (c : Nat) (s : ByteArray) (w : World) (hp : p.Ok) (hl : RI w A (levsL p).length (levsL p)) (hs : s.size ≤ 100) :
    Calls Tryz.prog 86 #[.agg #[.string (strL (itemsL p)), .slice A (levsL p).length c], .string s] w (RetS (lvListIn p (low s.data.toList)) w) := by
  have HOK := Lib.hid hp
  have HL := Lib.hid hl
  have CS := Lib.hid fun W => rSmall_any s W (by omega)
  have HLL : Hid ((low s.data.toList).length = s.size) := Lib.hid (by rw [low_len]; simp)
  generalize hlw : low s.data.toList = L at *
  clear hlw
  change Hid (∀ W, Calls Tryz.prog 66 #[.string s] W (Ret (.string (strL L)) W)) at CS
  have HIL := Lib.hid (itemsL_len p)
  have HVL : Hid ((levsL p).length = fN p + (p.lt.length + 1) + eN p) := Lib.hid (by rw [levsL_len, hp.len])
  have HF1 : Hid (fN p ≤ 1 ∧ eN p ≤ 1) := Lib.hid (by unfold fN eN; constructor <;> split <;> omega)
  have HPL : Hid (1 ≤ p.lt.length ∧ p.lt.length ≤ 16) := Lib.hid ⟨hp.lo, hp.hi⟩
  have hs1 : (s.size : Int) ≤ 100 := by omega
  have u1 : IntKind.i64.wrap ((s.size : Int) + 1) = (s.size : Int) + 1 := IntWalk.i64_in _ (by omega)
  have hmk := run_make_ints (s.size + 1) (by omega)
  simp only [Int.natCast_add, Int.natCast_one] at hmk
  have hdt := dotted_str L
  have hlz : (strL L).size = s.size := by rw [strL_size, HLL.out]
  have hd1 : ((⟨#[46]⟩ : ByteArray) ++ strL L).size = s.size + 1 := by rw [ByteArray.size_append, hlz]; show 1 + s.size = _; omega
  have hdz : (strL (dotted L)).size = s.size + 2 := by rw [strL_size, dotted_len, HLL.out]
  clear hp hl
  go_enter Tryz.func86, Tryz.ntmps86
  go_upto_region 2 with fail
  clear hmk
  have HS0 : Hid (RlS w p A c (w.heap.size + 1) s.size (lvAt p L 0) ((w.alloc (.cells #[.string (strL (itemsL p)), .slice A (levsL p).length c] 139)).alloc (.cells (Array.replicate (s.size + 1) (.int .i64 0)) 3))) := Lib.hid (by
    refine ⟨(by repeat (first | exact Ext.refl _ | assumption | refine Ext.alloc ?_ _ | refine Ext.drew ?_ | refine Ext.drewN ?_ _ | (refine Ext.setCell ?_ (by simp <;> omega) _) | refine Ext.trans ?_ (by assumption))), (Blk.new w _ _).alloc _, rfl, ?_⟩
    have hz : outF s.size (lvAt p L 0) = List.replicate (s.size + 1) 0 := by
      unfold outF
      rw [List.eq_replicate_iff]
      exact ⟨by simp, by simp [lvAt]⟩
    have h := World.ownsRow_lit (e := 3) (size := 1) (base := w.heap.size + 1) (w.alloc (.cells #[.string (strL (itemsL p)), .slice A (levsL p).length c] 139)) (Array.replicate (s.size + 1) (.int .i64 0)) (s.size + 1) (by simp) (by unfold maxLen; omega) (by simp)
    rw [hz]
    refine SL.of_own ?_ (by simp; omega)
    unfold Own
    simpa using h)
  generalize ((w.alloc (.cells #[.string (strL (itemsL p)), .slice A (levsL p).length c] 139)).alloc (.cells (Array.replicate (s.size + 1) (.int .i64 0)) 3)) = w2 at *
  obtain ⟨g, hg⟩ : ∃ g, g = w.heap.size + 1 := ⟨_, rfl⟩
  rw [← hg] at HS0 ⊢
  clear hg
  go_upto_region 4 with (first | (go_at_call 66; refine Calls.mono (CS.out _) ?_; rintro e w1 ⟨rfl, hx⟩; have HX1 := Lib.hid hx; clear hx) | (go_at_call 120; refine Calls.mono (CD.out _) ?_; rintro e w1 ⟨rfl, rfl⟩))
  have HS1 := Lib.hid (HS0.out.next HX1.out)
  clear HS0 hdt hlz hd1
  obtain ⟨it, hit⟩ : ∃ x, x = strL (itemsL p) := ⟨_, rfl⟩
  have HIT := Lib.hid hit
  have hiz : it.size = (itemsL p).length := by rw [hit, strL_size]
  obtain ⟨ds, hds⟩ : ∃ x, x = strL (dotted L) := ⟨_, rfl⟩
  have HDS := Lib.hid hds
  rw [← hds] at hdz ⊢
  have CDD := Lib.hid fun o ho W => rDots_any it ds o W (by rw [hiz]; have := HIL.out; have := HPL.out; have := HF1.out; omega) (by omega) ho
  have HRH := Lib.hid fun o (ho : o + it.size ≤ s.size + 2) => rhit_iff HOK.out (L := L) (o := o) (by rw [HLL.out, ← hiz]; exact ho)
  have HRU : Hid (∀ o, o + it.size ≤ s.size + 2 → rhit p L o = (decide (ds.extract o (o + it.size) = it) && dotB it.data.toList ds.size o)) := Lib.hid fun o ho => by
    unfold rhit
    rw [hit, strL_list, hdz, HLL.out, ← hit, hds]
    congr 1
    rw [decide_eq_decide]
    have h1 : ((strL (dotted L)).extract o (o + it.size)).data.toList = ((dotted L).drop o).take (itemsL p).length := by
      rw [cut_list, strL_list, List.drop_take, hiz]; congr 1; omega
    rw [← h1]
    constructor
    · intro h2; exact bytes_ext (by rw [h2, hit, strL_list])
    · intro h2; rw [h2, hit, strL_list]
  have HIZ : Hid (it.size = fN p + p.lt.length + eN p) := Lib.hid (by rw [hiz, HIL.out])
  clear hit hds hiz
  obtain ⟨f, hf⟩ : ∃ f, f = fN p := ⟨_, rfl⟩
  rw [← hf] at HF1 HVL HIZ HRH
  have HFE := Lib.hid hf
  have HBX : Hid (∀ W, RlS w p A c g s.size (lvAt p L 0) W → True) := Lib.hid fun _ _ => trivial
  have HB0 : Hid (∀ F W, RlS w p A c g s.size F W → W.cell? ⟨w.heap.size, 0, none⟩ = some (.string it) ∧ W.cell? ⟨w.heap.size, 1, none⟩ = some (.slice A (levsL p).length c) ∧ w.heap.size < W.heap.size) := Lib.hid fun F W h => ⟨by rw [HIT.out]; exact h.bx.cell 0 _ rfl, h.bx.cell 1 _ rfl, h.bx.lt⟩
  clear hf HBX
  obtain ⟨hb, hhb⟩ : ∃ hb, hb = w.heap.size := ⟨_, rfl⟩
  rw [← hhb] at HB0 ⊢
  clear hhb
  have HSR : Hid (it.size ≤ 18) := Lib.hid (by have := HIZ.out; have := HPL.out; have := HF1.out; omega)
  have hsr : it.size ≤ 18 := HSR.out
  go_loopw [7, 8, 9] (fun v7 _ _ wr => ∃ o : Nat, o + f ≤ s.size + 2 ∧ v7 = .int .i64 (o : Int) ∧ Hid (RlS w p A c g s.size (lvAt p L (o + f - 1)) wr)) (fun v7 _ _ _ => s.size + 3 - (intOf v7).toNat)
  case atStart => exact ⟨0, by have := HF1.out; omega, rfl, by rw [show 0 + f - 1 = 0 by have := HF1.out; omega]; exact HS1⟩
  case round =>
    clear HS1
    obtain ⟨o, ho, rfl, HS⟩ := hrel
    obtain ⟨k0, k1, kl⟩ := HB0.out _ _ HS.out
    have u2 : IntKind.i64.wrap ((o : Int) + (it.size : Int)) = (o : Int) + (it.size : Int) := IntWalk.i64_in _ (by omega)
    by_cases hc : o + it.size ≤ s.size + 2
    case neg =>
      -- BEGIN A
      have ic : ¬ (o : Int) + (it.size : Int) ≤ (s.size : Int) + 2 := by omega
      have ic2 : ¬ (o : Int) + (it.size : Int) ≤ ((s.size + 2 : Nat) : Int) := by omega
      have HRES : Hid (RlS w p A c g s.size (lvIn p L) wr) := Lib.hid (by
        have h1 : lvAt p L (o + f - 1) = lvIn p L := by
          funext i
          unfold lvIn
          exact (lvAt_big (by have := HIZ.out; have := HLL.out; have := HF1.out; have := HPL.out; omega) i _ (by have := HLL.out; omega)).symm
        rw [← h1]; exact HS.out)
      clear HS hc
      go_wp2
      go_ret
      refine ⟨some ⟨g, 0, none⟩, s.size + 1, by rw [lvListIn_len, HLL.out]; rfl, ?_, HRES.out.ext⟩
      rw [lvListIn_out, HLL.out]
      exact HRES.out.sl.mono (by have := HRES.out.lo; omega)
      -- END A
    case pos =>
      have ic : (o : Int) + (it.size : Int) ≤ (s.size : Int) + 2 := by omega
      have ic2 : (o : Int) + (it.size : Int) ≤ ((s.size + 2 : Nat) : Int) := by omega
      have io2 : (o : Int) ≤ (o : Int) + (it.size : Int) := by omega
      have hof : o + 1 + f ≤ s.size + 2 := by have := HIZ.out; have := HPL.out; omega
      have htn : ((o : Int) + (it.size : Int)).toNat = o + it.size := by omega
      have HNX : Hid (rhit p L o = false → lvAt p L (o + f - 1) = lvAt p L (o + 1 + f - 1)) := Lib.hid fun h => by
        rcases Nat.eq_zero_or_pos (o + f) with h0 | h0
        · rw [show o + f - 1 = 0 by omega, show o + 1 + f - 1 = 0 by omega]
        · have h1 : hit p L (o + f - 1) = false := by
            cases h2 : hit p L (o + f - 1) with
            | false => rfl
            | true => rw [(HRH.out o hc).2 ⟨h0, h2⟩] at h; cases h
          rw [lvAt_skip L _ h1]; congr 1; omega
      have CD := Lib.hid (CDD.out o (by omega))
      have HRO := Lib.hid (HRU.out o hc)
      have HRI := Lib.hid (HRH.out o hc)
      by_cases he : ds.extract o (o + it.size) = it
      case neg =>
        -- BEGIN B
        have e0 : ((ds.extract o (o + it.size)).toList == it.toList) = false := str_eq_false he
        have HR0 : Hid (rhit p L o = false) := Lib.hid (by rw [HRO.out, decide_eq_false he]; rfl)
        clear he
        go_upto_region 6 with fail
        go_quiet (first | (go_at_call 66; refine Calls.mono (CS.out _) ?_; rintro e w1 ⟨rfl, hx⟩; have HX1 := Lib.hid hx; clear hx) | (go_at_call 120; refine Calls.mono (CD.out _) ?_; rintro e w1 ⟨rfl, rfl⟩))
        go_wp2
        go_roundw
        case rel => exact ⟨o + 1, hof, by go_num, Lib.hid (by rw [← HNX.out HR0.out]; exact HS.out.next (by repeat (first | exact Ext.refl _ | assumption | refine Ext.alloc ?_ _ | refine Ext.drew ?_ | refine Ext.drewN ?_ _ | (refine Ext.setCell ?_ (by simp <;> omega) _) | refine Ext.trans ?_ (by assumption))))⟩
        case measure => simp [intOf]; omega
        -- END B
      case pos =>
        have e0 : ((ds.extract o (o + it.size)).toList == it.toList) = true := by rw [he]; exact str_eq_true _
        cases hdb : dotB it.data.toList ds.size o
        case false =>
          -- BEGIN C
          have HR0 : Hid (rhit p L o = false) := Lib.hid (by rw [HRO.out, hdb, Bool.and_false])
          rw [hdb] at CD
          clear he hdb
          go_upto_region 6 with fail
          go_quiet ((go_at_call 120; exact Same.quiet (CD.out _)))
          go_wp2
          go_roundw
          case rel => exact ⟨o + 1, hof, by go_num, Lib.hid (by rw [← HNX.out HR0.out]; exact HS.out.next (by repeat (first | exact Ext.refl _ | assumption | refine Ext.alloc ?_ _ | refine Ext.drew ?_ | refine Ext.drewN ?_ _ | (refine Ext.setCell ?_ (by simp <;> omega) _) | refine Ext.trans ?_ (by assumption))))⟩
          case measure => simp [intOf]; omega
          -- END C
        case true =>
          -- BEGIN D
          have HR1 := Lib.hid (HRI.out.1 (by rw [HRO.out, hdb, decide_eq_true he]; rfl))
          rw [hdb] at CD
          clear he hdb
          obtain ⟨n, hn⟩ : ∃ n, o + f = n + 1 := ⟨o + f - 1, by have := HR1.out.1; omega⟩
          have HON := Lib.hid hn
          have HHI : Hid (hit p L n = true) := Lib.hid (by have h := HR1.out.2; rwa [show o + f - 1 = n by omega] at h)
          have HNL : Hid (n + p.lt.length ≤ s.size) := Lib.hid (by
            have h := HHI.out
            unfold hit at h
            simp only [Bool.and_eq_true, decide_eq_true_eq] at h
            rw [← HLL.out]; exact h.1.1.1)
          rw [show o + f - 1 = n by omega] at HS
          have HNX2 : Hid (lvAt p L (o + 1 + f - 1) = lvAt p L (n + 1)) := Lib.hid (by congr 1; omega)
          have HEND := Lib.hid (inJ_all L n HHI.out)
          clear hn HRI HRO HNX HR1
          generalize lvAt p L n = old at *
          go_upto_region 6 with fail
          go_quiet ((go_at_call 120; exact Same.quiet (CD.out _)))
          have HS2 : Hid (RlS w p A c g s.size (inJ old p n (min (0 - f) (p.lt.length + 1))) wr) := Lib.hid (by
            rw [show min (0 - f) (p.lt.length + 1) = 0 by omega, inJ_zero]; exact HS.out)
          clear HS k0 k1 kl e0
          go_upto_region 8 with fail
          go_loopw [8, 9] (fun v8 _ wr => ∃ j : Nat, j ≤ (levsL p).length ∧ v8 = .int .i64 (j : Int) ∧ Hid (RlS w p A c g s.size (inJ old p n (min (j - f) (p.lt.length + 1))) wr)) (fun v8 _ _ => (levsL p).length - (intOf v8).toNat)
          case atStart => exact ⟨0, Nat.zero_le _, rfl, Lib.hid (HS2.out.next (by repeat (first | exact Ext.refl _ | assumption | refine Ext.alloc ?_ _ | refine Ext.drew ?_ | refine Ext.drewN ?_ _ | (refine Ext.setCell ?_ (by simp <;> omega) _) | refine Ext.trans ?_ (by assumption))))⟩
          case round =>
            clear HS2
            obtain ⟨j, hj, rfl, HS⟩ := hrel
            obtain ⟨k0, k1, kl⟩ := HB0.out _ _ HS.out
            have hlv : (levsL p).length ≤ 19 := by have := HVL.out; have := HPL.out; have := HF1.out; omega
            by_cases hlt : j < (levsL p).length
            case neg =>
              obtain rfl : j = (levsL p).length := by omega
              have ij : ¬ ((levsL p).length : Int) < ((levsL p).length : Int) := by omega
              have HS3 : Hid (RlS w p A c g s.size (lvAt p L (n + 1)) wr) := Lib.hid (by
                have h := HS.out
                rw [show min ((levsL p).length - f) (p.lt.length + 1) = p.lt.length + 1 by have := HVL.out; omega, HEND.out] at h
                exact h)
              clear HS HVL hj
              go_wp2
              go_roundw
              case rel => exact ⟨o + 1, hof, by go_num, by rw [HNX2.out]; exact HS3⟩
              case measure => simp [intOf]; omega
            case pos =>
              have ij : (j : Int) < ((levsL p).length : Int) := by omega
              have u3 : IntKind.i64.wrap ((o : Int) + (j : Int)) = (o : Int) + (j : Int) := IntWalk.i64_in _ (by omega)
              have u4 : IntKind.i64.wrap ((o : Int) + (j : Int) - 1) = (o : Int) + (j : Int) - 1 := IntWalk.i64_in _ (by omega)
              by_cases hin : f ≤ j ∧ j - f ≤ p.lt.length
              case neg =>
                have iw : ¬ (0 ≤ (o : Int) + (j : Int) - 1 ∧ (o : Int) + (j : Int) - 1 ≤ (s.size : Int)) := by
                  have h1 := HHI.out
                  unfold hit at h1
                  simp only [Bool.and_eq_true, decide_eq_true_eq, Bool.or_eq_true, Bool.not_eq_true'] at h1
                  obtain ⟨⟨⟨h2, h3⟩, h4⟩, _⟩ := h1
                  have hfe := HFE.out
                  have hvl := HVL.out
                  have hon := HON.out
                  have hll := HLL.out
                  unfold fN at hfe
                  unfold eN at hvl
                  cases hfs : p.fs
                  · rw [hfs] at hfe
                    simp at hfe
                    cases hen : p.en
                    · rw [hen] at hvl; simp at hvl; omega
                    · rw [hen] at hvl h4; simp at hvl h4; omega
                  · rw [hfs] at hfe h3
                    simp at hfe h3
                    cases hen : p.en
                    · rw [hen] at hvl; simp at hvl; omega
                    · rw [hen] at hvl h4; simp at hvl h4; omega
                have HS3 : Hid (RlS w p A c g s.size (inJ old p n (min (j + 1 - f) (p.lt.length + 1))) wr) := Lib.hid (by
                  rw [show min (j + 1 - f) (p.lt.length + 1) = min (j - f) (p.lt.length + 1) by have := HF1.out; omega]; exact HS.out)
                clear HS hin
                go_wp2_with (first | (go_at_call 57; refine Calls.mono (bWithin_yes _ _ _ _ ?_) ?_; (omega); rintro e w1 ⟨rfl, rfl⟩) | (go_at_call 57; refine Calls.mono (bWithin_no _ _ _ _ ?_) ?_; (omega); rintro e w1 ⟨rfl, rfl⟩))
                go_roundw
                case rel => exact ⟨j + 1, by omega, by go_num, HS3⟩
                case measure => simp [intOf]; omega
              case pos =>
                obtain ⟨i, hi⟩ : ∃ i : Nat, (o : Int) + (j : Int) - 1 = (i : Int) ∧ i = n + (j - f) := ⟨n + (j - f), by have := HON.out; omega, rfl⟩
                have HI := Lib.hid hi.2
                have iq := hi.1
                have iw : 0 ≤ (i : Int) ∧ (i : Int) ≤ (s.size : Int) := by have := HNL.out; omega
                have iw2 : (i : Int) < (s.size : Int) + 1 := by omega
                have iw3 : i ≤ s.size := by omega
                replace u4 : IntKind.i64.wrap ((o : Int) + (j : Int) - 1) = (i : Int) := by rw [u4]; exact iq
                clear hi iq
                obtain ⟨y0, yf, yl⟩ := HS.out.at_ iw3
                obtain ⟨lb, lo, hA, hlb, hlc⟩ := (HL.out.ext HS.out.ext).2.2 (by omega)
                subst hA
                have cj := hlc j hlt
                have hlz : (levsL p).getD j 0 = p.lv.getD (j - f) 0 := by rw [← levsL_at p (j := j - f) (by rw [HOK.out.len]; omega), ← HFE.out, show f + (j - f) = j by omega]
                rw [hlz] at cj
                have HNV : Hid (inJ old p n (min (j - f) (p.lt.length + 1)) i = old i) := Lib.hid (by
                  unfold inJ; rw [if_neg (by have := HI.out; omega)])
                rw [HNV.out] at y0
                have HSN : Hid (RlS w p (some ⟨lb, lo, none⟩) c g s.size (inJ old p n (min (j + 1 - f) (p.lt.length + 1))) (wr.setCell ⟨g, i, none⟩ (.int .i64 (max (old i) (p.lv.getD (j - f) 0)))).drew) := Lib.hid (by
                  refine RlS.next (HS.out.put (by omega) iw3 _ fun k => ?_) (Ext.refl _).drew
                  rw [show min (j + 1 - f) (p.lt.length + 1) = min (j - f) (p.lt.length + 1) + 1 by omega, inJ_next]
                  have hij := HI.out
                  simp only
                  rw [show n + min (j - f) (p.lt.length + 1) = i by omega, show min (j - f) (p.lt.length + 1) = j - f by omega]
                  by_cases hki : k = i
                  · subst hki
                    rw [if_pos rfl, if_pos rfl, inJ, if_neg (by omega)]
                  · rw [if_neg hki, if_neg hki])
                clear HS hlc hlz HNV
                generalize old i = x at *
                generalize p.lv.getD (j - f) 0 = y at *
                go_upto_region 12 with (first | (go_at_call 57; refine Calls.mono (bWithin_yes _ _ _ _ ?_) ?_; (omega); rintro e w1 ⟨rfl, rfl⟩) | (go_at_call 57; refine Calls.mono (bWithin_no _ _ _ _ ?_) ?_; (omega); rintro e w1 ⟨rfl, rfl⟩))
                go_still_tail 13, (by kernel_rfl)
                change wpList _ _ _ _ _ (World.drew _)
                go_wp2
                go_roundw
                case rel => exact ⟨j + 1, by omega, by go_num, HSN⟩
                case measure => simp [intOf]; omega
          -- END D
end Go.Proofs.YtccdnieoaejgdaaGreatDoor
