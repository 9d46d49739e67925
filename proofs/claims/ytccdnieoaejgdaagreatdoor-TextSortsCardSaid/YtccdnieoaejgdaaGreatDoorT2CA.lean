/-
  Walk: whether a sort may stand at a place of a word (the reference's May).
  Walk: the first byte of a word that no letter prints (the reference's FirstMissing).
  Walk: the first byte of a word that no letter prints (the program's FirstMissing).
  Walk: FirstMissing.
-/
import Derived.Test.YtccdnieoaejgdaaGreatDoorT2BH
import Derived.Test.YtccdnieoaejgdaaGreatDoorT2AV
import Derived.Test.YtccdnieoaejgdaaGreatDoorT2AX
set_option linter.unusedVariables false
set_option linter.unusedSimpArgs false
set_option linter.unusedSectionVars false
namespace Go.Proofs.YtccdnieoaejgdaaGreatDoor
open Go.RowKit Go.Lib

def mayB (ss : List TS) (l : List UInt8) (bz : List Int) (a i : Nat) : Bool := fitB (ss.getD i TS.zero) (l.drop a) && !barIn bz a (txN ss i)
theorem may_kind {ss : List TS} {l : List UInt8} {bz : List Int} {a i : Nat} (h : (ss.getD i TS.zero).kind = 3) : mayB ss l bz a i = false := by
  unfold mayB fitB; rw [decide_eq_false (by rw [h]; simp)]; rfl
theorem may_long {ss : List TS} {s : ByteArray} {bz : List Int} {a i : Nat} (h : s.size < a + txN ss i) (ha : a ≤ s.size) : mayB ss s.data.toList bz a i = false := by
  unfold mayB
  cases hf : fitB (ss.getD i TS.zero) (s.data.toList.drop a) with
  | false => rfl
  | true =>
    have h1 := fitB_len hf
    unfold txN at h
    rw [List.length_drop] at h1
    have h2 : s.data.toList.length = s.size := by simp
    omega
theorem may_fit {ss : List TS} {s : ByteArray} {bz : List Int} {a i : Nat} (h : a + txN ss i ≤ s.size) (hk : (ss.getD i TS.zero).kind ≠ 3) : mayB ss s.data.toList bz a i = (decide (s.extract a (a + txN ss i) = (ss.getD i TS.zero).text) && !barIn bz a (txN ss i)) := by
  unfold mayB fitB
  rw [decide_eq_true hk, Bool.true_and]
  congr 1
  rw [decide_eq_decide]
  have h1 : (s.extract a (a + txN ss i)).data.toList = (s.data.toList.drop a).take (ss.getD i TS.zero).text.size := by
    rw [cut_list, List.drop_take]; unfold txN; congr 1; omega
  rw [← h1]
  constructor
  · intro h2; exact bytes_ext h2
  · intro h2; rw [h2]
theorem barIn_no {bz : List Int} {a n : Int} (h : ∀ q, q < bz.length → ¬ (a < bz.getD q 0 ∧ bz.getD q 0 < a + n)) : barIn bz a n = false := by
  unfold barIn; rw [List.any_eq_false]
  intro z hz he
  obtain ⟨q, hq, rfl⟩ := List.mem_iff_getElem.1 hz
  refine h q hq ?_
  rw [List.getD_eq_getElem?_getD, List.getElem?_eq_getElem hq]
  rw [Bool.and_eq_true, decide_eq_true_eq, decide_eq_true_eq] at he
  exact he
theorem barIn_yes {bz : List Int} {a n : Int} {k : Nat} (hk : k < bz.length) (h : a < bz.getD k 0 ∧ bz.getD k 0 < a + n) : barIn bz a n = true := by
  unfold barIn; rw [List.any_eq_true]
  rw [List.getD_eq_getElem?_getD, List.getElem?_eq_getElem hk] at h
  exact ⟨_, List.getElem_mem _, by rw [Bool.and_eq_true, decide_eq_true_eq, decide_eq_true_eq]; exact h⟩
set_option maxRecDepth 100000 in
set_option maxHeartbeats 4000000 in
theorem rMay_any (f : FT) (A : Option Addr) (c : Nat) (s : ByteArray) (B : Option Addr) (bc : Nat) (bz : List Int) (a i : Nat) (w : World) (hf : FR w A c f) (hz : s.size ≤ 1000000) (hb : RI w B bz.length bz) (ha : a ≤ s.size) (hi : i < f.sorts.length) (hts : txN f.sorts i ≤ 1000000) :
    Calls Tryz.prog 117 #[f.val A c, .string s, .slice B bz.length bc, .int .i64 (a : Int), .int .i64 (i : Int)] w (Ret (.bool (mayB f.sorts s.data.toList bz a i)) w) := by
  have hbig := hb.2.1
  obtain ⟨name, body, ss⟩ := f
  have HRT := Lib.hid hf.rt
  clear hf
  have HRI := Lib.hid hb; clear hb
  simp only at HRT hts hi
  unfold FT.val
  simp only
  obtain ⟨b, off, rfl, hbw, hcell⟩ := HRT.out.2.2 (by omega)
  obtain ⟨c0, c1, c2, c3⟩ := hcell i hi
  clear hcell
  have ii : (i : Int) < (ss.length : Int) := by omega
  have hsb : ss.length ≤ 9223372036854775807 := HRT.out.2.1
  have HK1 := Lib.hid (may_kind (ss := ss) (l := s.data.toList) (bz := bz) (a := a) (i := i))
  have HL1 := Lib.hid (fun h => may_long (ss := ss) (s := s) (bz := bz) (a := a) (i := i) h ha)
  have HF1 := Lib.hid (may_fit (ss := ss) (s := s) (bz := bz) (a := a) (i := i))
  have HTN : Hid (txN ss i = (ss.getD i TS.zero).text.size) := Lib.hid rfl
  generalize mayB ss s.data.toList bz a i = out at *
  generalize txN ss i = n at *
  generalize (ss.getD i TS.zero).text = tx at *
  generalize (ss.getD i TS.zero).kind = kd at *
  generalize (ss.getD i TS.zero).name = nm at *
  generalize (ss.getD i TS.zero).width = wd at *
  have htn : tx.size = n := HTN.out.symm
  have HW0 := Lib.hid (Ext.refl w)
  have u1 : IntKind.i64.wrap ((a : Int) + (n : Int)) = (a : Int) + (n : Int) := IntWalk.i64_in _ (by omega)
  clear HTN
  by_cases hk : kd = 3
  case pos =>
    -- BEGIN A
    have HE := Lib.hid (HK1.out hk)
    subst hk
    clear HK1 HL1 HF1
    go_enter Tryz.func117, Tryz.ntmps117
    go_wp2
    go_ret
    exact Ret.mk' (by rw [HE.out]; rfl) (by repeat (first | exact Ext.refl _ | assumption | refine Ext.alloc ?_ _ | refine Ext.drew ?_ | refine Ext.drewN ?_ _ | (refine Ext.setCell ?_ (by simp <;> omega) _) | refine Ext.trans ?_ (by assumption)))
    -- END A
  case neg =>
    have k0 : (kd == 3) = false := by rw [beq_eq_false_iff_ne]; exact hk
    by_cases hl : s.size < a + n
    case pos =>
      -- BEGIN B
      have HE := Lib.hid (HL1.out hl)
      have il : (s.size : Int) < (a : Int) + (n : Int) := by omega
      clear HK1 HL1 HF1 hl
      go_enter Tryz.func117, Tryz.ntmps117
      go_wp2
      go_ret
      exact Ret.mk' (by rw [HE.out]; rfl) (by repeat (first | exact Ext.refl _ | assumption | refine Ext.alloc ?_ _ | refine Ext.drew ?_ | refine Ext.drewN ?_ _ | (refine Ext.setCell ?_ (by simp <;> omega) _) | refine Ext.trans ?_ (by assumption)))
      -- END B
    case neg =>
      have il : ¬ (s.size : Int) < (a : Int) + (n : Int) := by omega
      have il2 : (a : Int) + (n : Int) ≤ (s.size : Int) := by omega
      have il3 : (a : Int) ≤ (a : Int) + (n : Int) := by omega
      have HFF := Lib.hid (HF1.out (by omega) hk)
      clear HK1 HL1 HF1 hl
      by_cases he : s.extract a (a + n) = tx
      case neg =>
        -- BEGIN C
        have HE : Hid (out = false) := Lib.hid (by rw [HFF.out, decide_eq_false he]; rfl)
        have e0 : ((s.extract a (a + n)).toList == tx.toList) = false := str_eq_false he
        clear HFF he
        go_enter Tryz.func117, Tryz.ntmps117
        go_wp2
        go_ret
        exact Ret.mk' (by rw [HE.out]; rfl) (by repeat (first | exact Ext.refl _ | assumption | refine Ext.alloc ?_ _ | refine Ext.drew ?_ | refine Ext.drewN ?_ _ | (refine Ext.setCell ?_ (by simp <;> omega) _) | refine Ext.trans ?_ (by assumption)))
        -- END C
      case pos =>
        have HE : Hid (out = !barIn bz a n) := Lib.hid (by rw [HFF.out, decide_eq_true he]; rfl)
        have e0 : ((s.extract a (a + n)).toList == tx.toList) = true := by rw [he]; exact str_eq_true _
        clear HFF he
        -- BEGIN D
        go_enter Tryz.func117, Tryz.ntmps117
        go_upto_region 5 with fail
        have HX0 : Hid (Ext w (w.alloc (.cells #[.string name, .int .i64 body, .slice (some ⟨b, off, none⟩) ss.length c] 42))) := Lib.hid ((Ext.refl w).alloc _)
        generalize w.alloc (.cells #[.string name, .int .i64 body, .slice (some ⟨b, off, none⟩) ss.length c] 42) = w0 at *
        have HRZ := Lib.hid (HRI.out.ext HX0.out)
        clear c0 c1 c2 c3 e0 HRT HRI
        go_loopw [12] (fun v12 wr => ∃ k : Nat, k ≤ bz.length ∧ v12 = .int .i64 (k : Int) ∧ w0 = wr ∧ Hid (∀ q, q < k → ¬ ((a : Int) < bz.getD q 0 ∧ bz.getD q 0 < (a : Int) + (n : Int)))) (fun v12 _ => bz.length - (intOf v12).toNat)
        case atStart => exact ⟨0, Nat.zero_le _, rfl, rfl, Lib.hid (fun q hq => absurd hq (by omega))⟩
        case round =>
          obtain ⟨k, hk, rfl, rfl, HQ⟩ := hrel
          by_cases hlt : k < bz.length
          case pos =>
            have ik : (k : Int) < (bz.length : Int) := by omega
            obtain ⟨g, go, rfl, hgw, hc⟩ := HRZ.out.2.2 (by omega)
            have ck := hc k hlt
            clear hc
            have HYS := Lib.hid (barIn_yes (bz := bz) (a := (a : Int)) (n := (n : Int)) hlt)
            have HNX : Hid (¬ ((a : Int) < bz.getD k 0 ∧ bz.getD k 0 < (a : Int) + (n : Int)) → ∀ q, q < k + 1 → ¬ ((a : Int) < bz.getD q 0 ∧ bz.getD q 0 < (a : Int) + (n : Int))) := Lib.hid fun h q hq => by
              rcases Nat.lt_or_ge q k with h9 | h9
              · exact HQ.out q h9
              · obtain rfl : q = k := by omega
                exact h
            generalize bz.getD k 0 = z at *
            clear HQ
            by_cases h1 : (a : Int) < z
            case pos =>
              by_cases h2 : z < (a : Int) + (n : Int)
              case pos =>
                have HE2 : Hid (out = false) := Lib.hid (by rw [HE.out, HYS.out ⟨h1, h2⟩]; rfl)
                clear HNX HYS HE
                go_wp2
                go_ret
                exact Ret.mk' (by rw [HE2.out]; rfl) HX0.out
              case neg =>
                have HN2 := Lib.hid (HNX.out (fun h => h2 h.2))
                clear HNX HYS
                go_wp2
                go_roundw
                case rel => exact ⟨k + 1, by omega, by go_num, by trivial, HN2⟩
                case measure => simp [intOf] <;> omega
            case neg =>
              have HN2 := Lib.hid (HNX.out (fun h => h1 h.1))
              clear HNX HYS
              go_wp2
              go_roundw
              case rel => exact ⟨k + 1, by omega, by go_num, by trivial, HN2⟩
              case measure => simp [intOf] <;> omega
          case neg =>
            obtain rfl : k = bz.length := by omega
            have ik : ¬ (bz.length : Int) < (bz.length : Int) := by omega
            have HE2 : Hid (out = true) := Lib.hid (by rw [HE.out, barIn_no HQ.out]; rfl)
            clear HE HQ
            go_wp2
            go_ret
            exact Ret.mk' (by rw [HE2.out]; rfl) HX0.out
        -- END D
end Go.Proofs.YtccdnieoaejgdaaGreatDoor
namespace Go.Proofs.YtccdnieoaejgdaaGreatDoor
open Go.RowKit Go.Lib

/-- Whether one of the first n sorts is a letter that prints a byte. -/
def fmLet (ss : List TS) (b : UInt8) : Nat → Bool
  | 0 => false
  | n + 1 => fmLet ss b n || (decide ((ss.getD n TS.zero).kind = 1) && decide ((ss.getD n TS.zero).text = strL [b]))
def letB (ss : List TS) (b : UInt8) : Bool := fmLet ss b ss.length
def fmTo (ss : List TS) (l : List UInt8) : Nat → Option Nat
  | 0 => none
  | n + 1 => match fmTo ss l n with
    | some k => some k
    | none => if letB ss (l.getD n 0) = true then none else some n
/-- The first byte that no letter prints, or -1. -/
def fmOf (ss : List TS) (l : List UInt8) : Int := match fmTo ss l l.length with
  | some k => (k : Int)
  | none => -1
theorem fmTo_some {ss : List TS} {l : List UInt8} {k i : Nat} (h : fmTo ss l k = some i) : ∀ n, k ≤ n → fmTo ss l n = some i
  | 0, hn => by rw [show k = 0 by omega] at h; exact h
  | n + 1, hn => by
    rcases Nat.lt_or_ge n k with h1 | h1
    · rw [show n + 1 = k by omega]; exact h
    · rw [fmTo, fmTo_some h n h1]
set_option maxRecDepth 100000 in
set_option maxHeartbeats 4000000 in
theorem rFirstMissing_any (f : FT) (A : Option Addr) (c : Nat) (s : ByteArray) (w : World) (hf : FR w A c f) (hz : s.size ≤ 1000000) :
    Calls Tryz.prog 29 #[f.val A c, .string s] w (Ret (.int .i64 (fmOf f.sorts s.data.toList)) w) := by
  obtain ⟨name, body, ss⟩ := f
  have HRT := Lib.hid hf.rt
  clear hf
  simp only at HRT
  unfold FT.val
  simp only
  have hsb : ss.length ≤ 9223372036854775807 := HRT.out.2.1
  have hsz : s.size ≤ 9223372036854775807 := by omega
  obtain ⟨l, hl⟩ : ∃ l, l = s.data.toList := ⟨_, rfl⟩
  rw [← hl]
  have HLL : Hid (l.length = s.size) := Lib.hid (by rw [hl]; simp)
  have HCT : Hid (∀ k, k < s.size → s.extract k (k + 1) = strL [l.getD k 0]) := Lib.hid (fun k h => by rw [hl]; exact byte_cut s k h)
  clear hl
  have HFO : Hid (fmOf ss l = match fmTo ss l l.length with | some k => (k : Int) | none => -1) := Lib.hid rfl
  generalize fmOf ss l = out at *
  go_enter Tryz.func29, Tryz.ntmps29
  go_upto_region 2 with fail
  have HB := Lib.hid (Blk.new w 42 #[.string name, .int .i64 body, .slice A ss.length c])
  have HX0 : Hid (Ext w (w.alloc (.cells #[.string name, .int .i64 body, .slice A ss.length c] 42))) := Lib.hid ((Ext.refl w).alloc _)
  generalize w.alloc (.cells #[.string name, .int .i64 body, .slice A ss.length c] 42) = w0 at *
  go_loopw [5] (fun v5 wr => ∃ k : Nat, k ≤ s.size ∧ v5 = .int .i64 (k : Int) ∧ Hid (fmTo ss l k = none) ∧ Hid (Ext w0 wr)) (fun v5 _ => s.size - (intOf v5).toNat)
  case atStart => exact ⟨0, Nat.zero_le _, rfl, Lib.hid rfl, Lib.hid (Ext.refl _)⟩
  case round =>
    obtain ⟨k, hk, rfl, HN, HX⟩ := hrel
    by_cases hlt : k < s.size
    case pos =>
      have ik : (k : Int) < (s.size : Int) := by omega
      have ik2 : (k : Int) + 1 ≤ (s.size : Int) := by omega
      have ik3 : (k : Int) ≤ (k : Int) + 1 := by omega
      have hct := HCT.out k hlt
      have u1 : IntKind.i64.wrap ((k : Int) + 1) = (k : Int) + 1 := IntWalk.i64_in _ (by omega)
      have HNX : Hid (fmTo ss l (k + 1) = if letB ss (l.getD k 0) = true then none else some k) := Lib.hid (by rw [fmTo, HN.out])
      generalize l.getD k 0 = b at *
      go_upto_region 6 with fail
      go_loopw [6, 7] (fun v6 v7 wn => ∃ j : Nat, j ≤ ss.length ∧ v6 = .bool (fmLet ss b j) ∧ v7 = .int .i64 (j : Int) ∧ Hid (Ext w0 wn)) (fun _ v7 _ => ss.length - (intOf v7).toNat)
      case atStart => exact ⟨0, Nat.zero_le _, rfl, rfl, HX⟩
      case round =>
        clear HX
        obtain ⟨j, hj, rfl, rfl, HX⟩ := hrel
        have HB1 := Lib.hid (HB.out.ext HX.out)
        have y2 := HB1.out.cell 2 _ rfl
        have yl := HB1.out.lt
        by_cases hjt : j < ss.length
        case pos =>
          have ij : (j : Int) < (ss.length : Int) := by omega
          have HRX := Lib.hid (HRT.out.ext (HX0.out.trans HX.out))
          obtain ⟨g, off, rfl, hgw, hcell⟩ := HRX.out.2.2 (by omega)
          obtain ⟨c0, c1, c2, c3⟩ := hcell j hjt
          clear hcell
          have HJ : Hid (fmLet ss b (j + 1) = (fmLet ss b j || (decide ((ss.getD j TS.zero).kind = 1) && decide ((ss.getD j TS.zero).text = strL [b])))) := Lib.hid rfl
          generalize fmLet ss b j = fd at *
          generalize (ss.getD j TS.zero).text = tx at *
          generalize (ss.getD j TS.zero).kind = kd at *
          generalize (ss.getD j TS.zero).name = nm at *
          generalize (ss.getD j TS.zero).width = wd at *
          have hz1 : (strL [b]).size = 1 := rfl
          cases fd
          case true =>
            -- BEGIN P
            go_upto_region 8 with fail
            go_quiet (fail)
            go_wp2
            go_roundw
            case rel => exact ⟨j + 1, by omega, by rw [HJ.out]; rfl, by go_num, Lib.hid (HX.out.trans (by repeat (first | exact Ext.refl _ | assumption | refine Ext.alloc ?_ _ | refine Ext.drew ?_ | refine Ext.drewN ?_ _ | (refine Ext.setCell ?_ (by simp <;> omega) _) | refine Ext.trans ?_ (by assumption))))⟩
            case measure => simp [intOf]; omega
            -- END P
          case false =>
            by_cases hkd : kd = 1
            case neg =>
              -- BEGIN Q
              have k0 : (kd == 1) = false := by rw [beq_eq_false_iff_ne]; exact hkd
              have HJ2 : Hid (fmLet ss b (j + 1) = false) := Lib.hid (by rw [HJ.out, decide_eq_false hkd]; rfl)
              go_upto_region 8 with fail
              go_quiet (fail)
              go_wp2
              go_roundw
              case rel => exact ⟨j + 1, by omega, by rw [HJ2.out], by go_num, Lib.hid (HX.out.trans (by repeat (first | exact Ext.refl _ | assumption | refine Ext.alloc ?_ _ | refine Ext.drew ?_ | refine Ext.drewN ?_ _ | (refine Ext.setCell ?_ (by simp <;> omega) _) | refine Ext.trans ?_ (by assumption))))⟩
              case measure => simp [intOf]; omega
              -- END Q
            case pos =>
              subst hkd
              by_cases htx : tx = strL [b]
              case pos =>
                -- BEGIN R
                have e0 : (tx.toList == (strL [b]).toList) = true := by rw [htx]; exact str_eq_true _
                have HJ2 : Hid (fmLet ss b (j + 1) = true) := Lib.hid (by rw [HJ.out, decide_eq_true htx]; rfl)
                clear htx
                go_upto_region 8 with fail
                go_quiet (fail)
                go_wp2
                go_roundw
                case rel => exact ⟨j + 1, by omega, by rw [HJ2.out], by go_num, Lib.hid (HX.out.trans (by repeat (first | exact Ext.refl _ | assumption | refine Ext.alloc ?_ _ | refine Ext.drew ?_ | refine Ext.drewN ?_ _ | (refine Ext.setCell ?_ (by simp <;> omega) _) | refine Ext.trans ?_ (by assumption))))⟩
                case measure => simp [intOf]; omega
                -- END R
              case neg =>
                -- BEGIN S
                have e0 : (tx.toList == (strL [b]).toList) = false := str_eq_false htx
                have HJ2 : Hid (fmLet ss b (j + 1) = false) := Lib.hid (by rw [HJ.out, decide_eq_false htx]; rfl)
                clear htx
                go_upto_region 8 with fail
                go_quiet (fail)
                go_wp2
                go_roundw
                case rel => exact ⟨j + 1, by omega, by rw [HJ2.out], by go_num, Lib.hid (HX.out.trans (by repeat (first | exact Ext.refl _ | assumption | refine Ext.alloc ?_ _ | refine Ext.drew ?_ | refine Ext.drewN ?_ _ | (refine Ext.setCell ?_ (by simp <;> omega) _) | refine Ext.trans ?_ (by assumption))))⟩
                case measure => simp [intOf]; omega
                -- END S
        case neg =>
          obtain rfl : j = ss.length := by omega
          have ij : ¬ (ss.length : Int) < (ss.length : Int) := by omega
          have HLB : Hid (letB ss b = fmLet ss b ss.length) := Lib.hid rfl
          cases hfd : fmLet ss b ss.length
          case true =>
            -- BEGIN T
            have HN2 : Hid (fmTo ss l (k + 1) = none) := Lib.hid (by rw [HNX.out, HLB.out, hfd]; rfl)
            go_wp2
            go_roundw
            case rel => exact ⟨k + 1, by omega, by go_num, HN2, HX⟩
            case measure => simp [intOf]; omega
            -- END T
          case false =>
            -- BEGIN U
            have HN2 : Hid (out = (k : Int)) := Lib.hid (by
              have h1 : fmTo ss l (k + 1) = some k := by rw [HNX.out, HLB.out, hfd]; rfl
              rw [HFO.out, fmTo_some h1 l.length (by rw [HLL.out]; omega)])
            go_wp2
            go_ret
            exact Ret.mk' (by rw [HN2.out]; rfl) (HX0.out.trans HX.out)
            -- END U
    case neg =>
      -- BEGIN C
      obtain rfl : k = s.size := by omega
      have ik : ¬ (s.size : Int) < (s.size : Int) := by omega
      have HN2 : Hid (out = -1) := Lib.hid (by rw [HFO.out, HLL.out, HN.out])
      go_wp2
      go_ret
      exact Ret.mk' (by rw [HN2.out]; rfl) (HX0.out.trans HX.out)
      -- END C
end Go.Proofs.YtccdnieoaejgdaaGreatDoor
namespace Go.Proofs.YtccdnieoaejgdaaGreatDoor
open Go.RowKit Go.Lib

def fmHit (x : TS) (b : UInt8) : Bool := decide (x.kind = 1) && decide (x.text = strL [b])
theorem fmLet_next (ss : List TS) (b : UInt8) (k : Nat) : fmLet ss b (k + 1) = (fmLet ss b k || fmHit (ss.getD k TS.zero) b) := rfl
theorem fmLet_keep {ss : List TS} {b : UInt8} {k : Nat} (h : fmLet ss b k = true) : ∀ n, k ≤ n → fmLet ss b n = true
  | 0, hn => by rw [show k = 0 by omega] at h; exact h
  | n + 1, hn => by
    rcases Nat.lt_or_ge n k with h1 | h1
    · rw [show n + 1 = k by omega]; exact h
    · rw [fmLet, fmLet_keep h n h1]; rfl
/-- What the closure has caught: the word and the place. -/
structure FmH (W : World) (sb ib : Nat) (s : ByteArray) (i : Nat) : Prop where
  s : W.cell? ⟨sb, 0, none⟩ = some (.string s) ∧ sb < W.heap.size
  i : W.cell? ⟨ib, 0, none⟩ = some (.int .i64 (i : Int)) ∧ ib < W.heap.size
theorem FmH.ext {w w' : World} {sb ib : Nat} {s : ByteArray} {i : Nat} (h : FmH w sb ib s i) (hx : Ext w w') : FmH w' sb ib s i :=
  ⟨⟨(hx.cell (p := ⟨sb, 0, none⟩) h.s.2).trans h.s.1, Nat.lt_of_lt_of_le h.s.2 hx.size⟩, ⟨(hx.cell (p := ⟨ib, 0, none⟩) h.i.2).trans h.i.1, Nat.lt_of_lt_of_le h.i.2 hx.size⟩⟩
set_option maxRecDepth 100000 in
set_option maxHeartbeats 4000000 in
theorem fm1_any (x : TS) (s : ByteArray) (i : Nat) (sb ib : Nat) (w : World) (hi : i < s.size) (hs : s.size ≤ 1000000) (hc : FmH w sb ib s i) :
    Calls Tryz.prog 71 #[x.val, .pointer (some ⟨sb, 0, none⟩), .pointer (some ⟨ib, 0, none⟩)] w (Ret (.bool (fmHit x (s.data.toList.getD i 0))) w) := by
  obtain ⟨nm, tx, kd, wd⟩ := x
  have HF : Hid (fmHit ⟨nm, tx, kd, wd⟩ (s.data.toList.getD i 0) = (decide (kd = 1) && decide (tx = strL [s.data.toList.getD i 0]))) := Lib.hid rfl
  have hct := byte_cut s i hi
  generalize fmHit ⟨nm, tx, kd, wd⟩ (s.data.toList.getD i 0) = out at *
  generalize s.data.toList.getD i 0 = b at *
  have q1 := hc.s.1; have q1l := hc.s.2; have q2 := hc.i.1; have q2l := hc.i.2
  clear hc
  have i1 : (i : Int) + 1 ≤ (s.size : Int) := by omega
  have i2 : (i : Int) ≤ (i : Int) + 1 := by omega
  have u1 : IntKind.i64.wrap ((i : Int) + 1) = (i : Int) + 1 := IntWalk.i64_in _ (by omega)
  have htn : ((i : Int) + 1).toNat = i + 1 := by omega
  unfold TS.val
  simp only
  by_cases hk : kd = 1
  case neg =>
    have k0 : (kd == 1) = false := by rw [beq_eq_false_iff_ne]; exact hk
    have HE : Hid (out = false) := Lib.hid (by rw [HF.out, decide_eq_false hk]; rfl)
    clear hct
    go_enter Tryz.func71, Tryz.ntmps71
    go_upto_region 1 with fail
    go_quiet (fail)
    go_wp2
    go_ret
    exact Ret.mk' (by rw [HE.out]; rfl) (by repeat (first | exact Ext.refl _ | assumption | refine Ext.alloc ?_ _ | refine Ext.drew ?_ | refine Ext.drewN ?_ _ | (refine Ext.setCell ?_ (by simp <;> omega) _) | refine Ext.trans ?_ (by assumption)))
  case pos =>
    subst hk
    by_cases ht : tx = strL [b]
    case pos =>
      have e0 : (tx.toList == (strL [b]).toList) = true := by rw [ht]; exact str_eq_true _
      have HE : Hid (out = true) := Lib.hid (by rw [HF.out, decide_eq_true ht]; rfl)
      clear ht
      go_enter Tryz.func71, Tryz.ntmps71
      go_upto_region 1 with fail
      go_quiet (fail)
      go_wp2
      go_ret
      exact Ret.mk' (by rw [HE.out]; rfl) (by repeat (first | exact Ext.refl _ | assumption | refine Ext.alloc ?_ _ | refine Ext.drew ?_ | refine Ext.drewN ?_ _ | (refine Ext.setCell ?_ (by simp <;> omega) _) | refine Ext.trans ?_ (by assumption)))
    case neg =>
      have e0 : (tx.toList == (strL [b]).toList) = false := str_eq_false ht
      have HE : Hid (out = false) := Lib.hid (by rw [HF.out, decide_eq_false ht]; rfl)
      clear ht
      go_enter Tryz.func71, Tryz.ntmps71
      go_upto_region 1 with fail
      go_quiet (fail)
      go_wp2
      go_ret
      exact Ret.mk' (by rw [HE.out]; rfl) (by repeat (first | exact Ext.refl _ | assumption | refine Ext.alloc ?_ _ | refine Ext.drew ?_ | refine Ext.drewN ?_ _ | (refine Ext.setCell ?_ (by simp <;> omega) _) | refine Ext.trans ?_ (by assumption)))
def fmIx (ss : List TS) (b : UInt8) : Nat → Option Nat
  | 0 => none
  | n + 1 => match fmIx ss b n with
    | some k => some k
    | none => if fmHit (ss.getD n TS.zero) b = true then some n else none
theorem fmIx_let (ss : List TS) (b : UInt8) : ∀ n, (fmIx ss b n).isSome = fmLet ss b n
  | 0 => rfl
  | n + 1 => by
    rw [fmLet_next, ← fmIx_let ss b n, fmIx]
    cases fmIx ss b n with
    | some k => rfl
    | none =>
      cases h : fmHit (ss.getD n TS.zero) b <;> simp
theorem fmIx_keep {ss : List TS} {b : UInt8} {k j : Nat} (h : fmIx ss b k = some j) : ∀ n, k ≤ n → fmIx ss b n = some j
  | 0, hn => by rw [show k = 0 by omega] at h; exact h
  | n + 1, hn => by
    rcases Nat.lt_or_ge n k with h1 | h1
    · rw [show n + 1 = k by omega]; exact h
    · rw [fmIx, fmIx_keep h n h1]
def optZ (o : Option Nat) : Int := match o with | some k => (k : Int) | none => -1
set_option maxRecDepth 100000 in
set_option maxHeartbeats 4000000 in
theorem indexSort_any (ss : List TS) (A : Option Addr) (c : Nat) (s : ByteArray) (i : Nat) (sb ib : Nat) (w : World) (h : RT w A ss.length ss) (hi : i < s.size) (hs : s.size ≤ 1000000) (hc : FmH w sb ib s i) :
    Calls Tryz.prog 112 #[.slice A ss.length c, .func (.func 71) #[] #[.pointer (some ⟨sb, 0, none⟩), .pointer (some ⟨ib, 0, none⟩)]] w (Ret (.int .i64 (optZ (fmIx ss (s.data.toList.getD i 0) ss.length))) w) := by
  have hn9 := h.2.1
  have HR := Lib.hid h; have HC := Lib.hid hc
  clear h hc
  go_enter Tryz.func112, Tryz.ntmps112
  go_upto_region 2 with fail
  go_loopw [8, 5] (fun v8 _ wr => ∃ k : Nat, k ≤ ss.length ∧ v8 = .int .i64 (k : Int) ∧ Hid (fmIx ss (s.data.toList.getD i 0) k = none) ∧ Hid (Ext w wr)) (fun v8 _ _ => ss.length - (intOf v8).toNat)
  case atStart => exact ⟨0, Nat.zero_le _, rfl, Lib.hid rfl, Lib.hid (Ext.refl _)⟩
  case round =>
    obtain ⟨k, hk, rfl, HD, HX⟩ := hrel
    by_cases hlt : k < ss.length
    case neg =>
      obtain rfl : k = ss.length := by omega
      have ik : ¬ (ss.length : Int) < (ss.length : Int) := by omega
      have HE : Hid (optZ (fmIx ss (s.data.toList.getD i 0) ss.length) = -1) := Lib.hid (by rw [HD.out]; rfl)
      generalize optZ (fmIx ss (s.data.toList.getD i 0) ss.length) = out at *
      go_wp2
      go_ret
      exact Ret.mk' (by rw [HE.out]; rfl) HX.out
    case pos =>
      have ik : (k : Int) < (ss.length : Int) := by omega
      obtain ⟨b, off, hA, hbw, hcell⟩ := (HR.out.ext HX.out).2.2 (by omega)
      subst hA
      obtain ⟨c0, c1, c2, c3⟩ := hcell k hlt
      have CD := Lib.hid fun W (hx : Ext wr W) => fm1_any (ss.getD k TS.zero) s i sb ib W hi hs (HC.out.ext (HX.out.trans hx))
      have HN : Hid (fmIx ss (s.data.toList.getD i 0) (k + 1) = if fmHit (ss.getD k TS.zero) (s.data.toList.getD i 0) = true then some k else none) := Lib.hid (by rw [fmIx, HD.out])
      clear hcell HD
      unfold TS.val at CD
      generalize fmHit (ss.getD k TS.zero) (s.data.toList.getD i 0) = hit at *
      generalize (ss.getD k TS.zero).text = tx at *
      generalize (ss.getD k TS.zero).kind = kd at *
      generalize (ss.getD k TS.zero).name = nm at *
      generalize (ss.getD k TS.zero).width = wd at *
      cases hit
      case true =>
        have HE : Hid (optZ (fmIx ss (s.data.toList.getD i 0) ss.length) = (k : Int)) := Lib.hid (by
          rw [if_pos rfl] at HN
          rw [fmIx_keep HN.out ss.length (by omega)]; rfl)
        generalize optZ (fmIx ss (s.data.toList.getD i 0) ss.length) = out at *
        clear HN
        go_wp2_with (first | (go_at_call 71; refine Calls.mono (CD.out _ (by repeat (first | exact Ext.refl _ | assumption | refine Ext.alloc ?_ _ | refine Ext.drew ?_ | refine Ext.drewN ?_ _ | (refine Ext.setCell ?_ (by simp <;> omega) _) | refine Ext.trans ?_ (by assumption)))) ?_; rintro e w1 ⟨rfl, hx1⟩; have HX1 := Lib.hid (HX.out.trans (Ext.trans (by repeat (first | exact Ext.refl _ | assumption | refine Ext.alloc ?_ _ | refine Ext.drew ?_ | refine Ext.drewN ?_ _ | (refine Ext.setCell ?_ (by simp <;> omega) _) | refine Ext.trans ?_ (by assumption))) hx1)); clear hx1))
        go_ret
        exact Ret.mk' (by rw [HE.out]; rfl) HX1.out
      case false =>
        rw [if_neg (by simp)] at HN
        go_wp2_with (first | (go_at_call 71; refine Calls.mono (CD.out _ (by repeat (first | exact Ext.refl _ | assumption | refine Ext.alloc ?_ _ | refine Ext.drew ?_ | refine Ext.drewN ?_ _ | (refine Ext.setCell ?_ (by simp <;> omega) _) | refine Ext.trans ?_ (by assumption)))) ?_; rintro e w1 ⟨rfl, hx1⟩; have HX1 := Lib.hid (HX.out.trans (Ext.trans (by repeat (first | exact Ext.refl _ | assumption | refine Ext.alloc ?_ _ | refine Ext.drew ?_ | refine Ext.drewN ?_ _ | (refine Ext.setCell ?_ (by simp <;> omega) _) | refine Ext.trans ?_ (by assumption))) hx1)); clear hx1))
        go_roundw
        case rel => exact ⟨k + 1, by omega, by go_num, HN, HX1⟩
        case measure => simp [intOf]; omega
set_option maxHeartbeats 4000000 in
theorem containsSort_any (ss : List TS) (A : Option Addr) (c : Nat) (s : ByteArray) (i : Nat) (sb ib : Nat) (w : World) (h : RT w A ss.length ss) (hi : i < s.size) (hs : s.size ≤ 1000000) (hc : FmH w sb ib s i) :
    Calls Tryz.prog 70 #[.slice A ss.length c, .func (.func 71) #[] #[.pointer (some ⟨sb, 0, none⟩), .pointer (some ⟨ib, 0, none⟩)]] w (Ret (.bool (letB ss (s.data.toList.getD i 0))) w) := by
  have CI := Lib.hid fun W (hx : Ext w W) => indexSort_any ss A c s i sb ib W (h.ext hx) hi hs (hc.ext hx)
  have HL : Hid (letB ss (s.data.toList.getD i 0) = (fmIx ss (s.data.toList.getD i 0) ss.length).isSome) := Lib.hid (fmIx_let _ _ _).symm
  rw [HL.out]
  generalize fmIx ss (s.data.toList.getD i 0) ss.length = o at *
  clear h hc HL
  cases o
  case none =>
    change Hid (∀ W, Ext w W → Calls _ _ _ W (Ret (.int .i64 (-1)) W)) at CI
    go_enter Tryz.func70, Tryz.ntmps70
    go_wp2_with (first | (go_at_call 112; refine Calls.mono (CI.out _ (by repeat (first | exact Ext.refl _ | assumption | refine Ext.alloc ?_ _ | refine Ext.drew ?_ | refine Ext.drewN ?_ _ | (refine Ext.setCell ?_ (by simp <;> omega) _) | refine Ext.trans ?_ (by assumption)))) ?_; rintro e w1 ⟨rfl, hx1⟩; have HX1 := Lib.hid hx1; clear hx1))
    go_ret
    exact Ret.mk' rfl HX1.out
  case some k =>
    change Hid (∀ W, Ext w W → Calls _ _ _ W (Ret (.int .i64 (k : Int)) W)) at CI
    have h0 : (0 : Int) ≤ (k : Int) := by omega
    go_enter Tryz.func70, Tryz.ntmps70
    go_wp2_with (first | (go_at_call 112; refine Calls.mono (CI.out _ (by repeat (first | exact Ext.refl _ | assumption | refine Ext.alloc ?_ _ | refine Ext.drew ?_ | refine Ext.drewN ?_ _ | (refine Ext.setCell ?_ (by simp <;> omega) _) | refine Ext.trans ?_ (by assumption)))) ?_; rintro e w1 ⟨rfl, hx1⟩; have HX1 := Lib.hid hx1; clear hx1))
    go_ret
    exact Ret.mk' rfl HX1.out
end Go.Proofs.YtccdnieoaejgdaaGreatDoor
namespace Go.Proofs.YtccdnieoaejgdaaGreatDoor
open Go.RowKit Go.Lib

def RetNF (n z : Int) (w : World) (e : Ending) (w' : World) : Prop := e = .returned (.tuple #[.int .i64 n, .int .i64 z]) ∧ Ext w w'
/-- What FirstMissing answers. -/
def fmV (f : FT) (s : ByteArray) : Int × Int :=
  if (chk f).2 = 0 then (if wordB s = true then (match fmTo f.sorts s.data.toList s.size with | some k => ((k : Int), 0) | none => (0, 12)) else (0, 3)) else (0, (chk f).2)
set_option maxRecDepth 100000 in
set_option maxHeartbeats 4000000 in
theorem FirstMissing_any (f : FT) (A : Option Addr) (c : Nat) (s : ByteArray) (w : World) (hf : FR w A c f) (hz : s.size ≤ 1000000) :
    Calls Tryz.prog 24 #[f.val A c, .string s] w (RetNF (fmV f s).1 (fmV f s).2 w) := by
  have HV : Hid (fmV f s = if (chk f).2 = 0 then (if wordB s = true then (match fmTo f.sorts s.data.toList s.size with | some k => ((k : Int), 0) | none => (0, 12)) else (0, 3)) else (0, (chk f).2)) := Lib.hid rfl
  have CF0 := Lib.hid fun W (hx : Ext w W) => checkFount_any f A c W (hf.ext hx)
  unfold ChkV at CF0
  obtain ⟨name, body, ss⟩ := f
  have HRT := Lib.hid hf.rt
  clear hf
  unfold FT.val at CF0 ⊢
  simp only at HRT CF0 HV ⊢
  have CF : Hid (∀ W, Ext ((w.alloc (.cells #[.string name, .int .i64 body, .slice A ss.length c] 42)).alloc (.cells #[.string s] 9)) W → Calls Tryz.prog 68 #[.agg #[.string name, .int .i64 body, .slice A ss.length c]] W (Ret (.tuple #[.int .i64 (chk ⟨name, body, ss⟩).1, .int .i64 (chk ⟨name, body, ss⟩).2]) W)) := Lib.hid fun W hx => CF0.out W ((((Ext.refl w).alloc _).alloc _).trans hx)
  have CW := Lib.hid fun W => isWord_any s W (by omega)
  have HBC : Hid (∀ W, Ext ((w.alloc (.cells #[.string name, .int .i64 body, .slice A ss.length c] 42)).alloc (.cells #[.string s] 9)) W → W.cell? ⟨w.heap.size + 1, 0, none⟩ = some (.string s) ∧ w.heap.size + 1 < W.heap.size ∧ W.cell? ⟨w.heap.size, 2, none⟩ = some (.slice A ss.length c) ∧ w.heap.size < W.heap.size) := Lib.hid fun W hx => by
    have h1 := (Blk.new1 w (.cells #[.string name, .int .i64 body, .slice A ss.length c] 42) 9 #[.string s]).ext hx
    have h0 := ((Blk.new w 42 #[.string name, .int .i64 body, .slice A ss.length c]).alloc (.cells #[.string s] 9)).ext hx
    exact ⟨h1.cell 0 _ rfl, h1.lt, h0.cell 2 _ rfl, h0.lt⟩
  have HXB : Hid (Ext w ((w.alloc (.cells #[.string name, .int .i64 body, .slice A ss.length c] 42)).alloc (.cells #[.string s] 9))) := Lib.hid (by repeat (first | exact Ext.refl _ | assumption | refine Ext.alloc ?_ _ | refine Ext.drew ?_ | refine Ext.drewN ?_ _ | (refine Ext.setCell ?_ (by simp <;> omega) _) | refine Ext.trans ?_ (by assumption)))
  have hsb : ss.length ≤ 9223372036854775807 := HRT.out.2.1
  have hsz : s.size ≤ 9223372036854775807 := by omega
  clear CF0
  generalize fmV ⟨name, body, ss⟩ s = out at *
  generalize (chk ⟨name, body, ss⟩).1 = cn at *
  generalize (chk ⟨name, body, ss⟩).2 = ce at *
  by_cases h0 : ce = 0
  case neg =>
    have HE : Hid (out = (0, ce)) := Lib.hid (by rw [HV.out, if_neg h0])
    have b0 : (ce != 0) = true := by simpa using h0
    clear HV
    go_enter Tryz.func24, Tryz.ntmps24
    go_wp2_with (first | (go_at_call 68; refine Calls.mono (CF.out _ (by repeat (first | exact Ext.refl _ | assumption | refine Ext.alloc ?_ _ | refine Ext.drew ?_ | refine Ext.drewN ?_ _ | (refine Ext.setCell ?_ (by simp <;> omega) _) | refine Ext.trans ?_ (by assumption)))) ?_; rintro e w1 ⟨rfl, hx⟩; have HX1 := Lib.hid hx; obtain ⟨q0, q0l, q2, q2l⟩ := HBC.out _ hx; clear hx) | (go_at_call 69; refine Calls.mono (CW.out _) ?_; rintro e w2 ⟨rfl, hx⟩; have HX2 := Lib.hid (HX1.out.trans (Ext.trans (by repeat (first | exact Ext.refl _ | assumption | refine Ext.alloc ?_ _ | refine Ext.drew ?_ | refine Ext.drewN ?_ _ | (refine Ext.setCell ?_ (by simp <;> omega) _) | refine Ext.trans ?_ (by assumption))) hx)); obtain ⟨r0, r0l, r2, r2l⟩ := HBC.out _ HX2.out; clear hx))
    go_ret2
    exact ⟨by rw [HE.out]; rfl, HXB.out.trans HX1.out⟩
  case pos =>
    subst h0
    rw [if_pos rfl] at HV
    cases hw : wordB s
    case false =>
      rw [hw] at CW HV
      have HE : Hid (out = (0, 3)) := Lib.hid (by rw [HV.out]; rfl)
      clear HV hw
      go_enter Tryz.func24, Tryz.ntmps24
      go_wp2_with (first | (go_at_call 68; refine Calls.mono (CF.out _ (by repeat (first | exact Ext.refl _ | assumption | refine Ext.alloc ?_ _ | refine Ext.drew ?_ | refine Ext.drewN ?_ _ | (refine Ext.setCell ?_ (by simp <;> omega) _) | refine Ext.trans ?_ (by assumption)))) ?_; rintro e w1 ⟨rfl, hx⟩; have HX1 := Lib.hid hx; obtain ⟨q0, q0l, q2, q2l⟩ := HBC.out _ hx; clear hx) | (go_at_call 69; refine Calls.mono (CW.out _) ?_; rintro e w2 ⟨rfl, hx⟩; have HX2 := Lib.hid (HX1.out.trans (Ext.trans (by repeat (first | exact Ext.refl _ | assumption | refine Ext.alloc ?_ _ | refine Ext.drew ?_ | refine Ext.drewN ?_ _ | (refine Ext.setCell ?_ (by simp <;> omega) _) | refine Ext.trans ?_ (by assumption))) hx)); obtain ⟨r0, r0l, r2, r2l⟩ := HBC.out _ HX2.out; clear hx))
      go_ret2
      exact ⟨by rw [HE.out]; rfl, HXB.out.trans HX2.out⟩
    case true =>
      rw [hw] at CW HV
      rw [if_pos rfl] at HV
      clear hw
      go_enter Tryz.func24, Tryz.ntmps24
      go_upto_region 7 with (first | (go_at_call 68; refine Calls.mono (CF.out _ (by repeat (first | exact Ext.refl _ | assumption | refine Ext.alloc ?_ _ | refine Ext.drew ?_ | refine Ext.drewN ?_ _ | (refine Ext.setCell ?_ (by simp <;> omega) _) | refine Ext.trans ?_ (by assumption)))) ?_; rintro e w1 ⟨rfl, hx⟩; have HX1 := Lib.hid hx; obtain ⟨q0, q0l, q2, q2l⟩ := HBC.out _ hx; clear hx) | (go_at_call 69; refine Calls.mono (CW.out _) ?_; rintro e w2 ⟨rfl, hx⟩; have HX2 := Lib.hid (HX1.out.trans (Ext.trans (by repeat (first | exact Ext.refl _ | assumption | refine Ext.alloc ?_ _ | refine Ext.drew ?_ | refine Ext.drewN ?_ _ | (refine Ext.setCell ?_ (by simp <;> omega) _) | refine Ext.trans ?_ (by assumption))) hx)); obtain ⟨r0, r0l, r2, r2l⟩ := HBC.out _ HX2.out; clear hx))
      have HXW := Lib.hid (HXB.out.trans HX2.out)
      clear q0 q0l q2 q2l r0 r0l r2 r2l CF CW HX1
      go_loopw [22, 8] (fun v22 _ wr => ∃ k : Nat, k ≤ s.size ∧ v22 = .int .i64 (k : Int) ∧ Hid (fmTo ss s.data.toList k = none) ∧ Hid (Ext w2 wr)) (fun v22 _ _ => s.size - (intOf v22).toNat)
      case atStart => exact ⟨0, Nat.zero_le _, rfl, Lib.hid rfl, Lib.hid (Ext.refl _)⟩
      case round =>
        obtain ⟨k, hk, rfl, HN, HX⟩ := hrel
        by_cases hlt : k < s.size
        case neg =>
          obtain rfl : k = s.size := by omega
          have ik : ¬ (s.size : Int) < (s.size : Int) := by omega
          have HE : Hid (out = (0, 12)) := Lib.hid (by rw [HV.out, HN.out])
          go_wp2
          go_ret2
          exact ⟨by rw [HE.out]; rfl, HXW.out.trans HX.out⟩
        case pos =>
          have ik : (k : Int) < (s.size : Int) := by omega
          have HNX : Hid (fmTo ss s.data.toList (k + 1) = if letB ss (s.data.toList.getD k 0) = true then none else some k) := Lib.hid (by rw [fmTo, HN.out])
          have CC : Hid (∀ X, Ext (wr.alloc (.cells #[.int .i64 (k : Int)] 3)) X → Calls Tryz.prog 70 #[.slice A ss.length c, .func (.func 71) #[] #[.pointer (some ⟨w.heap.size + 1, 0, none⟩), .pointer (some ⟨wr.heap.size, 0, none⟩)]] X (Ret (.bool (letB ss (s.data.toList.getD k 0))) X)) := Lib.hid fun X hx => by
            obtain ⟨q0, q0l, _, _⟩ := HBC.out X (HX2.out.trans (HX.out.trans (((Ext.refl wr).alloc _).trans hx)))
            have hb := (Blk.new wr 3 #[.int .i64 (k : Int)]).ext hx
            exact containsSort_any ss A c s k _ _ X (HRT.out.ext (HXW.out.trans (HX.out.trans (((Ext.refl wr).alloc _).trans hx)))) hlt hz ⟨⟨q0, q0l⟩, ⟨hb.cell 0 _ rfl, hb.lt⟩⟩
          obtain ⟨q0, q0l, q2, q2l⟩ := HBC.out wr (HX2.out.trans HX.out)
          have hk1 : Hid (∀ n, k + 1 ≤ n → letB ss (s.data.toList.getD k 0) = false → fmTo ss s.data.toList n = some k) := Lib.hid fun n hn h => by
            refine fmTo_some (k := k + 1) ?_ n hn
            rw [HNX.out, if_neg (by rw [h]; simp)]
          generalize letB ss (s.data.toList.getD k 0) = lb at *
          have ikb : wr.heap.size < wr.heap.size + 1 := by omega
          cases lb
          case true =>
            have HN2 : Hid (fmTo ss s.data.toList (k + 1) = none) := Lib.hid (by rw [HNX.out]; rfl)
            clear hk1 HNX HN
            go_wp2_with (first | (go_at_call 70; refine Calls.mono (CC.out _ (by repeat (first | exact Ext.refl _ | assumption | refine Ext.alloc ?_ _ | refine Ext.drew ?_ | refine Ext.drewN ?_ _ | (refine Ext.setCell ?_ (by simp <;> omega) _) | refine Ext.trans ?_ (by assumption)))) ?_; rintro e w4 ⟨rfl, hx⟩; have HX4 := Lib.hid (HX.out.trans (Ext.trans ((Ext.refl wr).alloc _) hx)); clear hx))
            go_roundw
            case rel => exact ⟨k + 1, by omega, by go_num, HN2, HX4⟩
            case measure => simp [intOf]; omega
          case false =>
            have HE : Hid (out = ((k : Int), 0)) := Lib.hid (by rw [HV.out, hk1.out s.size (by omega) rfl])
            clear hk1 HNX HN
            go_wp2_with (first | (go_at_call 70; refine Calls.mono (CC.out _ (by repeat (first | exact Ext.refl _ | assumption | refine Ext.alloc ?_ _ | refine Ext.drew ?_ | refine Ext.drewN ?_ _ | (refine Ext.setCell ?_ (by simp <;> omega) _) | refine Ext.trans ?_ (by assumption)))) ?_; rintro e w4 ⟨rfl, hx⟩; have hb4 := (Blk.new wr 3 #[.int .i64 (k : Int)]).ext hx; have p0 := hb4.cell 0 _ rfl; have p0l := hb4.lt; have HX4 := Lib.hid (HX.out.trans (Ext.trans ((Ext.refl wr).alloc _) hx)); clear hx hb4))
            go_ret2
            exact ⟨by rw [HE.out]; rfl, HXW.out.trans HX4.out⟩
end Go.Proofs.YtccdnieoaejgdaaGreatDoor
