/-
  Walk: chapter 5: ParseFolio.
-/
import Derived.Test.YtffafbllgdonlaaGreatDoorGD
import Derived.Test.YtffafbllgdonlaaGreatDoorRFol
import Derived.Test.YtffafbllgdonlaaGreatDoorGB
namespace Go.Proofs.YtffafbllgdonlaaGreatDoor
open Go.RowKit

/-- The tables, and the two errors of strconv. -/
structure Tab5 (w : World) : Prop where
  fig : FigT w
  es : ∃ t p, w.cell? ⟨2, 0, none⟩ = some (.iface t p)
  er : ∃ t p, w.cell? ⟨3, 0, none⟩ = some (.iface t p)
  ls : 2 < w.heap.size
  lr : 3 < w.heap.size
theorem Tab5.ext {w w' : World} (h : Tab5 w) (hx : Ext w w') : Tab5 w' :=
  ⟨h.fig.ext hx, let ⟨t, p, e⟩ := h.es; ⟨t, p, (hx.cell (p := ⟨_, 0, none⟩) h.ls).trans e⟩, let ⟨t, p, e⟩ := h.er; ⟨t, p, (hx.cell (p := ⟨_, 0, none⟩) h.lr).trans e⟩, Nat.lt_of_lt_of_le h.ls hx.size, Nat.lt_of_lt_of_le h.lr hx.size⟩
theorem atoi_fail (s : ByteArray) (w : World) (hs : s.size ≤ 1000) (hT : Tab5 w) (h : ∀ v, Lib.atoiAll s.data.toList ≠ .ok v) :
    Calls Tryz.prog 107 #[.string s] w fun e w' => ∃ z t p, e = .returned (.tuple #[.int .i64 z, .iface t p]) ∧ Ext w w' := by
  cases ha : Lib.atoiAll s.data.toList with
  | ok v => exact absurd ha (h v)
  | «syntax» =>
    obtain ⟨t, p, hv⟩ := hT.es
    exact (Tryz.strconv_Atoi_syntax s (by omega) ha _ w hv (.inr ⟨_, _, rfl⟩)).mono fun e w' ⟨N, he, _, _, hb⟩ => ⟨_, _, _, he, hb⟩
  | range =>
    obtain ⟨t, p, hv⟩ := hT.er
    exact (Tryz.strconv_Atoi_range s (by omega) ha _ w hv (.inr ⟨_, _, rfl⟩)).mono fun e w' ⟨N, he, _, _, hb⟩ => ⟨_, _, _, he, hb⟩
theorem atoi_ok (s : ByteArray) (w : World) (hs : s.size ≤ 1000) {v : Int} (h : Lib.atoiAll s.data.toList = .ok v) :
    Calls Tryz.prog 107 #[.string s] w (Ret (.tuple #[.int .i64 v, .nilIface]) w) :=
  (Tryz.strconv_Atoi_ok s (by omega) v h w).mono fun e w' ⟨he, hw⟩ => ⟨he, by
    rcases hw with rfl | ⟨t, rfl⟩
    · exact Ext.refl _
    · exact Lib.bytesWorld_below _ _ _⟩
theorem atoi_i64 {l : List UInt8} {v : Int} (h : Lib.atoiAll l = .ok v) : I64 v := by
  cases l with
  | nil => cases h
  | cons c r =>
    simp only [Lib.atoiAll] at h
    generalize Lib.parseMag (if c.toNat = 43 ∨ c.toNat = 45 then r else c :: r) = q at h
    unfold I64
    cases q with
    | «syntax» => cases h
    | range => cases h
    | ok u =>
      simp only at h
      by_cases hn : c.toNat = 45
      · rw [if_neg (by omega), if_pos hn] at h
        split at h
        · cases h
        · rename_i hle
          (try rw [if_pos hn] at h)
          injection h with h
          omega
      · split at h
        · cases h
        · rename_i hle
          rw [if_neg (fun hh => hn hh.1)] at h
          (try rw [if_neg hn] at h)
          injection h with h
          omega
theorem hasPrefix_eq (l p : List UInt8) : Lib.hasPrefix l p = p.isPrefixOf l := by
  unfold Lib.hasPrefix
  rfl
theorem prefix_any (l p : List UInt8) (w : World) : Calls Tryz.prog 108 #[.string ⟨l.toArray⟩, .string ⟨p.toArray⟩] w (Same (.bool (p.isPrefixOf l)) w) :=
  (Tryz.strings_HasPrefix ⟨l.toArray⟩ ⟨p.toArray⟩ w).mono fun e w' ⟨he, hw⟩ => ⟨by rw [he, hasPrefix_eq], hw.symm⟩
def strLen : Value → Nat
  | .string b => b.size
  | _ => 0
theorem parV_bad : (.tuple #[.int .i64 0, .bool false, .int .i64 7] : Value) = .tuple #[.int .i64 ((0 : Int), false, (7 : Int)).1, .bool ((0 : Int), false, (7 : Int)).2.1, .int .i64 ((0 : Int), false, (7 : Int)).2.2] := rfl
theorem bytes_eta (s : ByteArray) : (⟨s.data.toList.toArray⟩ : ByteArray) = s := by obtain ⟨⟨a⟩⟩ := s; rfl
theorem slice_bytes (l : List UInt8) (k : Nat) (_h : k ≤ l.length) : (⟨l.toArray⟩ : ByteArray).extract k l.length = ⟨(l.drop k).toArray⟩ := by
  apply bytes_ext
  rw [ByteArray.data_extract]
  simp only [List.extract_toArray]
  show (List.drop k l).take (l.length - k) = _
  rw [List.take_of_length_le (by rw [List.length_drop]; omega)]
set_option maxRecDepth 100000 in
set_option maxHeartbeats 4000000 in
theorem parseFolioL (ll : List UInt8) (w : World) (hs : ll.length ≤ 1000) (hT : Tab5 w) : Calls Tryz.prog 47 #[.string ⟨ll.toArray⟩] w (Ret (parV ll) w) := by
  have HT := Lib.hid hT; have HTF := Lib.hid hT.fig; clear hT
  by_cases hok : ∃ v, Lib.atoiAll ll = .ok v
  case pos =>
    obtain ⟨v, ha⟩ := hok
    have hv := atoi_i64 ha
    have cF := fun W h => folio_any v false W hv h
    have CA := Lib.hid (fun W => atoi_ok ⟨ll.toArray⟩ W hs ha)
    have hP : parR ll = if folL v false = (ll, 0) then (v, false, 0) else (0, false, 7) := by unfold parR; rw [ha]
    unfold folV at cF
    by_cases hz : (folL v false).2 = 0
    case neg =>
      have HV : Hid (parV ll = .tuple #[.int .i64 0, .bool false, .int .i64 7]) := Lib.hid (by unfold parV; rw [hP, if_neg (fun e => hz (by rw [e]))])
      have e0 : ((folL v false).2 == 0) = false := by simpa using hz
      generalize (folL v false).2 = z at *
      generalize (folL v false).1 = O at *
      have CF := Lib.hid cF; clear cF hP hv ha hs hz
      go_enter Tryz.func47, Tryz.ntmps47
      go_wp2_with (first | (go_at_call 107; refine Calls.mono (CA.out _) ?_; rintro e w1 ⟨rfl, hb1⟩) | (go_at_call 46; refine Calls.mono (CF.out _ (HTF.out.ext (by repeat (first | exact Ext.refl _ | assumption | refine Ext.alloc ?_ _ | refine Ext.drew ?_ | refine Ext.drewN ?_ _ | (refine Ext.setCell ?_ (by simp <;> omega) _) | refine Ext.trans ?_ (by assumption))))) ?_; rintro e w2 ⟨rfl, hb2⟩))
      refine bodyPost_ret (v := .tuple #[.int .i64 0, .bool false, .int .i64 7]) (by simp [results, Tryz.results47, go_sem]) rfl (Ret.mk' HV.out.symm (hb1.trans hb2))
    case pos =>
    by_cases hO : (folL v false).1 = ll
    case neg =>
      have HV : Hid (parV ll = .tuple #[.int .i64 0, .bool false, .int .i64 7]) := Lib.hid (by unfold parV; rw [hP, if_neg (fun e => hO (by rw [e]))])
      have e1 : ((folL v false).1 == ll) = false := by simpa using hO
      rw [hz] at cF
      generalize (folL v false).1 = O at *
      have CF := Lib.hid cF; clear cF hP hv ha hs hz hO
      go_enter Tryz.func47, Tryz.ntmps47
      go_wp2_with (first | (go_at_call 107; refine Calls.mono (CA.out _) ?_; rintro e w1 ⟨rfl, hb1⟩) | (go_at_call 46; refine Calls.mono (CF.out _ (HTF.out.ext (by repeat (first | exact Ext.refl _ | assumption | refine Ext.alloc ?_ _ | refine Ext.drew ?_ | refine Ext.drewN ?_ _ | (refine Ext.setCell ?_ (by simp <;> omega) _) | refine Ext.trans ?_ (by assumption))))) ?_; rintro e w2 ⟨rfl, hb2⟩))
      refine bodyPost_ret (v := .tuple #[.int .i64 0, .bool false, .int .i64 7]) (by simp [results, Tryz.results47, go_sem]) rfl (Ret.mk' HV.out.symm (hb1.trans hb2))
    case pos =>
      have HV : Hid (parV ll = .tuple #[.int .i64 v, .bool false, .int .i64 0]) := Lib.hid (by unfold parV; rw [hP, if_pos (Prod.ext hO hz)])
      have e1 : (ll == ll) = true := by simp
      rw [hz, hO] at cF
      have CF := Lib.hid cF; clear cF hP hv ha hs hz hO
      go_enter Tryz.func47, Tryz.ntmps47
      go_wp2_with (first | (go_at_call 107; refine Calls.mono (CA.out _) ?_; rintro e w1 ⟨rfl, hb1⟩) | (go_at_call 46; refine Calls.mono (CF.out _ (HTF.out.ext (by repeat (first | exact Ext.refl _ | assumption | refine Ext.alloc ?_ _ | refine Ext.drew ?_ | refine Ext.drewN ?_ _ | (refine Ext.setCell ?_ (by simp <;> omega) _) | refine Ext.trans ?_ (by assumption))))) ?_; rintro e w2 ⟨rfl, hb2⟩))
      refine bodyPost_ret (v := .tuple #[.int .i64 v, .bool false, .int .i64 0]) (by simp [results, Tryz.results47, go_sem]) rfl (Ret.mk' HV.out.symm (hb1.trans hb2))
  case neg =>
    have hno : ∀ v, Lib.atoiAll ll ≠ .ok v := fun v e => hok ⟨v, e⟩
    have CA := Lib.hid (fun W h => atoi_fail ⟨ll.toArray⟩ W hs h hno)
    have hP : parR ll = if folL ((parT 0 0 ll).1 : Int) true = (ll, 0) then (((parT 0 0 ll).1 : Int), true, 0) else (0, false, 7) := by
      unfold parR
      rw [← parT_zero]
      split
      · rename_i v hv; exact absurd hv (hno v)
      · rfl
    have HL0 : Hid (ll.length ≤ 1000) := Lib.hid hs
    have HEN := Lib.hid parT_end; have HNX := Lib.hid parT_next; have HPZ := Lib.hid hP
    obtain ⟨FA, hFA, hFI, hFX⟩ := figs_load
    have HFA := Lib.hid hFA; have HFX := Lib.hid hFX; have HFI := Lib.hid hFI; clear hFA hFX hFI hok hno hs
    obtain ⟨R, hR⟩ : ∃ R, parT 0 0 ll = R := ⟨_, rfl⟩
    rw [hR] at hP
    have HP := Lib.hid hP; have HR := Lib.hid hR; clear hP hR HPZ
    go_enter Tryz.func47, Tryz.ntmps47
    go_upto_region 8 with (first | (go_at_call 107; refine Calls.mono (CA.out _ (HT.out.ext (by repeat (first | exact Ext.refl _ | assumption | refine Ext.alloc ?_ _ | refine Ext.drew ?_ | refine Ext.drewN ?_ _ | (refine Ext.setCell ?_ (by simp <;> omega) _) | refine Ext.trans ?_ (by assumption))))) ?_; rintro e w1 ⟨z0, tt0, pp0, rfl, hb1⟩; have HX1 : Hid (Ext w w1) := Lib.hid hb1; clear hb1))
    refine wp_region_lit ?_
    refine wpList_load_mid rfl 167 (.global 1) rfl 1 0 rfl FA (.array 13 166) (HFA.out _ (HTF.out.ext (HX1.out.trans (by repeat (first | exact Ext.refl _ | assumption | refine Ext.alloc ?_ _ | refine Ext.drew ?_ | refine Ext.drewN ?_ _ | (refine Ext.setCell ?_ (by simp <;> omega) _) | refine Ext.trans ?_ (by assumption)))))) Tryz.underlying167 rfl HFI.out ?_
    go_upto_block 0 with fail
    go_step
    go_loopw [9, 10, 37] (fun n l i wr => ∃ (k m : Nat) (r : List UInt8), k ≤ 13 ∧ i = .int .i64 (k : Int) ∧ n = .int .i64 (m : Int) ∧ l = .string ⟨r.toArray⟩ ∧ m ≤ 4999 ∧ Hid (r.length ≤ 1000) ∧ Hid (parT k m r = R) ∧ Hid (Ext w wr)) (fun _ _ i _ => 13 - (intOf i).toNat)
    case atStart => exact ⟨0, 0, ll, by omega, rfl, rfl, rfl, by omega, HL0, HR, Lib.hid (HX1.out.trans (by repeat (first | exact Ext.refl _ | assumption | refine Ext.alloc ?_ _ | refine Ext.drew ?_ | refine Ext.drewN ?_ _ | (refine Ext.setCell ?_ (by simp <;> omega) _) | refine Ext.trans ?_ (by assumption))))⟩
    case round =>
      obtain ⟨k, m, r, hk, rfl, rfl, rfl, hm, HRL, HPR, HX⟩ := hrel
      by_cases hlt : k < 13
      case neg =>
        obtain rfl : k = 13 := by omega
        have hPR := HPR.out
        rw [HEN.out] at hPR
        subst hPR
        have cF := fun W h => folio_any (m : Int) true W (by unfold I64; omega) h
        unfold folV at cF
        have hP := HP.out
        simp only at hP
        have hX := HX.out
        clear HP HPR HFX HFA HFI HNX HEN
        by_cases hz : (folL (m : Int) true).2 = 0
        case neg =>
          have HV : Hid (parV ll = .tuple #[.int .i64 0, .bool false, .int .i64 7]) := Lib.hid (by unfold parV; rw [hP, if_neg (fun e => hz (by rw [e]))])
          have e0 : ((folL (m : Int) true).2 == 0) = false := by simpa using hz
          generalize (folL (m : Int) true).2 = z at *
          generalize (folL (m : Int) true).1 = O at *
          have CF := Lib.hid cF; clear cF hP hz hX
          go_wp2_with (first | (go_at_call 46; refine Calls.mono (CF.out _ (HTF.out.ext (HX.out.trans (by repeat (first | exact Ext.refl _ | assumption | refine Ext.alloc ?_ _ | refine Ext.drew ?_ | refine Ext.drewN ?_ _ | (refine Ext.setCell ?_ (by simp <;> omega) _) | refine Ext.trans ?_ (by assumption)))))) ?_; rintro e w2 ⟨rfl, hb2⟩))
          refine bodyPost_ret (v := .tuple #[.int .i64 0, .bool false, .int .i64 7]) (by simp [results, Tryz.results47, go_sem]) rfl (Ret.mk' HV.out.symm (HX.out.trans hb2))
        case pos =>
        rw [hz] at cF
        by_cases hO : (folL (m : Int) true).1 = ll
        case neg =>
          have HV : Hid (parV ll = .tuple #[.int .i64 0, .bool false, .int .i64 7]) := Lib.hid (by unfold parV; rw [hP, if_neg (fun e => hO (by rw [e]))])
          have e1 : ((folL (m : Int) true).1 == ll) = false := by simpa using hO
          generalize (folL (m : Int) true).1 = O at *
          have CF := Lib.hid cF; clear cF hP hz hX hO
          go_wp2_with (first | (go_at_call 46; refine Calls.mono (CF.out _ (HTF.out.ext (HX.out.trans (by repeat (first | exact Ext.refl _ | assumption | refine Ext.alloc ?_ _ | refine Ext.drew ?_ | refine Ext.drewN ?_ _ | (refine Ext.setCell ?_ (by simp <;> omega) _) | refine Ext.trans ?_ (by assumption)))))) ?_; rintro e w2 ⟨rfl, hb2⟩))
          refine bodyPost_ret (v := .tuple #[.int .i64 0, .bool false, .int .i64 7]) (by simp [results, Tryz.results47, go_sem]) rfl (Ret.mk' HV.out.symm (HX.out.trans hb2))
        case pos =>
          have HV : Hid (parV ll = .tuple #[.int .i64 (m : Int), .bool true, .int .i64 0]) := Lib.hid (by unfold parV; rw [hP, if_pos (Prod.ext hO hz)])
          have e1 : (ll == ll) = true := by simp
          rw [hO] at cF
          have CF := Lib.hid cF; clear cF hP hz hX hO
          go_wp2_with (first | (go_at_call 46; refine Calls.mono (CF.out _ (HTF.out.ext (HX.out.trans (by repeat (first | exact Ext.refl _ | assumption | refine Ext.alloc ?_ _ | refine Ext.drew ?_ | refine Ext.drewN ?_ _ | (refine Ext.setCell ?_ (by simp <;> omega) _) | refine Ext.trans ?_ (by assumption)))))) ?_; rintro e w2 ⟨rfl, hb2⟩))
          refine bodyPost_ret (v := .tuple #[.int .i64 (m : Int), .bool true, .int .i64 0]) (by simp [results, Tryz.results47, go_sem]) rfl (Ret.mk' HV.out.symm (HX.out.trans hb2))
      case pos =>
        obtain ⟨wa, rfl⟩ : ∃ x, x = wr := ⟨_, rfl⟩
        have hix := HFX.out wa k hlt
        obtain ⟨⟨hv1, hv2⟩, ht1, ht2⟩ := fig_bd k hlt
        have HD := Lib.hid (HNX.out k hlt m r)
        generalize (figs.getD k (0, [])).1 = vv at *
        generalize (figs.getD k (0, [])).2 = tt at *
        have hkl : (k : Int) < 13 := by omega
        go_wp2
        have HB0 := Lib.hid (Blk.new wa 166 #[.int .i64 (vv : Int), .string ⟨tt.toArray⟩])
        have HP0 : Hid (parT (k + 1) (tkF vv tt m r).1 (tkF vv tt m r).2 = R) := Lib.hid (HD.out.symm.trans HPR.out)
        go_loopw [9, 10] (fun n l wr2 => ∃ (m : Nat) (r : List UInt8), n = .int .i64 (m : Int) ∧ l = .string ⟨r.toArray⟩ ∧ m ≤ 4999 ∧ Hid (r.length ≤ 1000) ∧ Hid (parT (k + 1) (tkF vv tt m r).1 (tkF vv tt m r).2 = R) ∧ Hid (Blk wr2 wa.heap.size 166 #[.int .i64 (vv : Int), .string ⟨tt.toArray⟩]) ∧ Hid (Ext w wr2)) (fun _ l _ => strLen l)
        case atStart => exact ⟨m, r, rfl, rfl, hm, HRL, HP0, HB0, Lib.hid (HX.out.trans (by repeat (first | exact Ext.refl _ | assumption | refine Ext.alloc ?_ _ | refine Ext.drew ?_ | refine Ext.drewN ?_ _ | (refine Ext.setCell ?_ (by simp <;> omega) _) | refine Ext.trans ?_ (by assumption))))⟩
        case round =>
          clear HP0 HB0 HPR HRL HX hm HD
          obtain ⟨m2, r2, rfl, rfl, hm, HRL, HPR, HB, HX⟩ := hrel
          have q0 := HB.out.cell 0 _ rfl
          have q1 := HB.out.cell 1 _ rfl
          have ql := HB.out.lt
          have cP := fun W => prefix_any r2 tt W
          by_cases hp : tt.isPrefixOf r2 = true
          case neg =>
            have hp' : tt.isPrefixOf r2 = false := by rw [← Bool.not_eq_true]; exact hp
            have HPN : Hid (parT (k + 1) m2 r2 = R) := Lib.hid (by have h9 := HPR.out; rwa [tkF_no ht2 (fun h => hp h.1)] at h9)
            rw [hp'] at cP
            have CP := Lib.hid cP; clear cP hp hp'
            go_wp2_with (first | (go_at_call 108; refine Calls.mono (CP.out _) ?_; rintro e w3 ⟨rfl, rfl⟩))
            go_roundw
            case rel => exact ⟨k + 1, m2, r2, by omega, by go_num, rfl, rfl, hm, HRL, HPN, Lib.hid (HX.out.trans (by repeat (first | exact Ext.refl _ | assumption | refine Ext.alloc ?_ _ | refine Ext.drew ?_ | refine Ext.drewN ?_ _ | (refine Ext.setCell ?_ (by simp <;> omega) _) | refine Ext.trans ?_ (by assumption))))⟩
            case measure => simp [intOf]; omega
          case pos =>
          have hlen : tt.length ≤ r2.length := by
            have := List.isPrefixOf_iff_prefix.1 hp
            exact this.length_le
          rw [hp] at cP
          by_cases hm9 : m2 ≤ 3999
          case neg =>
            have HPN : Hid (parT (k + 1) m2 r2 = R) := Lib.hid (by have h9 := HPR.out; rwa [tkF_no ht2 (fun h => hm9 h.2)] at h9)
            have i1 : ¬ (m2 : Int) ≤ 3999 := by omega
            have CP := Lib.hid cP; clear cP hp hlen
            go_wp2_with (first | (go_at_call 108; refine Calls.mono (CP.out _) ?_; rintro e w3 ⟨rfl, rfl⟩))
            go_roundw
            case rel => exact ⟨k + 1, m2, r2, by omega, by go_num, rfl, rfl, hm, HRL, HPN, Lib.hid (HX.out.trans (by repeat (first | exact Ext.refl _ | assumption | refine Ext.alloc ?_ _ | refine Ext.drew ?_ | refine Ext.drewN ?_ _ | (refine Ext.setCell ?_ (by simp <;> omega) _) | refine Ext.trans ?_ (by assumption))))⟩
            case measure => simp [intOf]; omega
          case pos =>
            have i1 : (m2 : Int) ≤ 3999 := by omega
            have HPN : Hid (parT (k + 1) (tkF vv tt (m2 + vv) (r2.drop tt.length)).1 (tkF vv tt (m2 + vv) (r2.drop tt.length)).2 = R) := Lib.hid (by have h9 := HPR.out; rwa [tkF_yes ht2 hp hm9] at h9)
            have CP := Lib.hid cP; clear cP hp
            have hw9 : IntKind.i64.wrap ((m2 : Int) + (vv : Int)) = ((m2 + vv : Nat) : Int) := by rw [IntWalk.i64_in _ (by omega)]; omega
            go_upto_region 12 with (first | (go_at_call 108; refine Calls.mono (CP.out _) ?_; rintro e w3 ⟨rfl, rfl⟩))
            have hlen2 : ((tt.length : Nat) : Int) ≤ (r2.length : Int) := by omega
            refine wp_region_steady (Ext _) [?_, ?_, ?_, ?_, ?_, ?_, ?_, ?_, ?_, ?_, ?_] (by kernel_rfl) (by kernel_rfl) rfl (Ext.refl _).drew ?_ ?_
            rotate_left 11
            · refine StepsT.cons (fun W hW => ?_) ?_
              · have q0 := (HB.out.ext hW).cell 0 _ rfl; have q1 := (HB.out.ext hW).cell 1 _ rfl; have ql := (HB.out.ext hW).lt; first | (refine StepT.off rfl hW ?_; rfl) | (refine StepT.go rfl ?_; go_simp; first | (refine ⟨?_, hW⟩; rfl))
              simp only [Act.put, List.setIfInBounds_toArray, List.set_cons_zero, List.set_cons_succ]
              refine StepsT.cons (fun W hW => ?_) ?_
              · have q0 := (HB.out.ext hW).cell 0 _ rfl; have q1 := (HB.out.ext hW).cell 1 _ rfl; have ql := (HB.out.ext hW).lt; first | (refine StepT.off rfl hW ?_; rfl) | (refine StepT.go rfl ?_; go_simp; first | (refine ⟨?_, hW⟩; rfl))
              simp only [Act.put, List.setIfInBounds_toArray, List.set_cons_zero, List.set_cons_succ]
              refine StepsT.cons (fun W hW => ?_) ?_
              · have q0 := (HB.out.ext hW).cell 0 _ rfl; have q1 := (HB.out.ext hW).cell 1 _ rfl; have ql := (HB.out.ext hW).lt; first | (refine StepT.off rfl hW ?_; rfl) | (refine StepT.go rfl ?_; go_simp; first | (refine ⟨?_, hW⟩; rfl))
              simp only [Act.put, List.setIfInBounds_toArray, List.set_cons_zero, List.set_cons_succ]
              refine StepsT.cons (fun W hW => ?_) ?_
              · have q0 := (HB.out.ext hW).cell 0 _ rfl; have q1 := (HB.out.ext hW).cell 1 _ rfl; have ql := (HB.out.ext hW).lt; first | (refine StepT.off rfl hW ?_; rfl) | (refine StepT.go rfl ?_; go_simp; first | (refine ⟨?_, hW⟩; rfl))
              simp only [Act.put, List.setIfInBounds_toArray, List.set_cons_zero, List.set_cons_succ]
              refine StepsT.cons (fun W hW => ?_) ?_
              · have q0 := (HB.out.ext hW).cell 0 _ rfl; have q1 := (HB.out.ext hW).cell 1 _ rfl; have ql := (HB.out.ext hW).lt; first | (refine StepT.off rfl hW ?_; rfl) | (refine StepT.go rfl ?_; go_simp; first | (refine ⟨?_, hW⟩; rfl))
              simp only [Act.put, List.setIfInBounds_toArray, List.set_cons_zero, List.set_cons_succ]
              refine StepsT.cons (fun W hW => ?_) ?_
              · have q0 := (HB.out.ext hW).cell 0 _ rfl; have q1 := (HB.out.ext hW).cell 1 _ rfl; have ql := (HB.out.ext hW).lt; first | (refine StepT.off rfl hW ?_; rfl) | (refine StepT.go rfl ?_; go_simp; first | (refine ⟨?_, hW⟩; rfl))
              simp only [Act.put, List.setIfInBounds_toArray, List.set_cons_zero, List.set_cons_succ]
              refine StepsT.cons (fun W hW => ?_) ?_
              · have q0 := (HB.out.ext hW).cell 0 _ rfl; have q1 := (HB.out.ext hW).cell 1 _ rfl; have ql := (HB.out.ext hW).lt; first | (refine StepT.off rfl hW ?_; rfl) | (refine StepT.go rfl ?_; go_simp; first | (refine ⟨?_, hW⟩; rfl))
              simp only [Act.put, List.setIfInBounds_toArray, List.set_cons_zero, List.set_cons_succ]
              refine StepsT.cons (fun W hW => ?_) ?_
              · have q0 := (HB.out.ext hW).cell 0 _ rfl; have q1 := (HB.out.ext hW).cell 1 _ rfl; have ql := (HB.out.ext hW).lt; first | (refine StepT.off rfl hW ?_; rfl) | (refine StepT.go rfl ?_; go_simp; first | (refine ⟨?_, hW⟩; rfl))
              simp only [Act.put, List.setIfInBounds_toArray, List.set_cons_zero, List.set_cons_succ]
              refine StepsT.cons (fun W hW => ?_) ?_
              · have q0 := (HB.out.ext hW).cell 0 _ rfl; have q1 := (HB.out.ext hW).cell 1 _ rfl; have ql := (HB.out.ext hW).lt; first | (refine StepT.off rfl hW ?_; rfl) | (refine StepT.go rfl ?_; go_simp; first | (refine ⟨?_, hW⟩; rfl))
              simp only [Act.put, List.setIfInBounds_toArray, List.set_cons_zero, List.set_cons_succ]
              refine StepsT.cons (fun W hW => ?_) ?_
              · have q0 := (HB.out.ext hW).cell 0 _ rfl; have q1 := (HB.out.ext hW).cell 1 _ rfl; have ql := (HB.out.ext hW).lt; first | (refine StepT.off rfl hW ?_; rfl) | (refine StepT.go rfl ?_; go_simp; first | (refine ⟨?_, hW⟩; rfl))
              simp only [Act.put, List.setIfInBounds_toArray, List.set_cons_zero, List.set_cons_succ]
              refine StepsT.cons (fun W hW => ?_) ?_
              · have q0 := (HB.out.ext hW).cell 0 _ rfl; have q1 := (HB.out.ext hW).cell 1 _ rfl; have ql := (HB.out.ext hW).lt; first | (refine StepT.off rfl hW ?_; rfl) | (refine StepT.go rfl ?_; go_simp; first | (refine ⟨?_, hW⟩; rfl))
              simp only [Act.put, List.setIfInBounds_toArray, List.set_cons_zero, List.set_cons_succ]
              trivial
            intro W hW
            simp only [putAll, Act.put, List.setIfInBounds_toArray, List.set_cons_zero, List.set_cons_succ]
            have HE9 : Hid ((⟨r2.toArray⟩ : ByteArray).extract tt.length r2.length = ⟨(r2.drop tt.length).toArray⟩) := Lib.hid (slice_bytes r2 tt.length hlen)
            go_roundw
            case rel => exact ⟨_, _, _, _, _, _, _, _, _, _, _, _, _, _, _, _, _, _, _, ⟨m2 + vv, r2.drop tt.length, by go_num, by rw [HE9.out], by omega, Lib.hid (by rw [List.length_drop]; have := HRL.out; omega), HPN, Lib.hid (HB.out.ext hW), Lib.hid (HX.out.trans hW)⟩, rfl⟩
            case measure =>
              show (ByteArray.extract _ _ _).size < (⟨r2.toArray⟩ : ByteArray).size
              rw [HE9.out]
              show (r2.drop tt.length).toArray.size < r2.toArray.size
              rw [List.size_toArray, List.size_toArray, List.length_drop]; omega
theorem parseFolio_any (s : ByteArray) (w : World) (hs : s.size ≤ 1000) (hT : Tab5 w) : Calls Tryz.prog 47 #[.string s] w (Ret (parV s.data.toList) w) := by
  have := parseFolioL s.data.toList w (by rw [← ByteArray.size_data] at hs; simpa using hs) hT
  rwa [bytes_eta] at this
end Go.Proofs.YtffafbllgdonlaaGreatDoor
