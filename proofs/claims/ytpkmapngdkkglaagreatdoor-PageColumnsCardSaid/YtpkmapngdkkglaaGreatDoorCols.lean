/-
  Walk: PageColumns returns true.
-/
import Derived.Test.YtpkmapngdkkglaaGreatDoorColRow
import Derived.Test.YtpkmapngdkkglaaGreatDoorPCol
import Derived.Test.YtpkmapngdkkglaaGreatDoorRCol
import Derived.Test.YtpkmapngdkkglaaGreatDoorSlim
import Derived.Test.YtpkmapngdkkglaaGreatDoorAwake5
import Derived.Test.YtpkmapngdkkglaaGreatDoorCopy
import Derived.Test.YtpkmapngdkkglaaGreatDoorLeastLaw
namespace Go.Proofs.YtpkmapngdkkglaaGreatDoor.columns
open Go.RowKit
attribute [local go_sem ↓] Go.wp_at_zero Go.wp_at_succ

set_option maxRecDepth 100000 in
set_option maxHeartbeats 32000000 in
theorem walk (f : FT) (A : Option Addr) (c : Nat) (B : Option Addr) (d : Nat) (xs : List S3) (w : World) (hf : FR w A c f) (h : R3 w B xs.length xs) (hT : Tab5 w) :
    Calls Tryz.prog 5 #[f.val A c, .slice B xs.length d] w (Ret (.bool true) w) := by
  have hbig := h.2.1
  have CA := Lib.hid (fun W h => awake5_any W h)
  have cS := fun W h => slim_any f A c W h
  have HF := Lib.hid hf; have HT := Lib.hid hT; have HR := Lib.hid h
  clear hT hf h
  obtain ⟨name, body, ss⟩ := f
  simp only [FT.val] at *
  cases hsl : slimB ⟨name, body, ss⟩ with
  | false =>
    simp only [hsl] at cS
    have CS := Lib.hid cS; clear cS hsl
    go_enter Tryz.func5, Tryz.ntmps5
    have HB := Lib.hid (Blk.new w 48 #[.string name, .int .i64 body, .slice A ss.length c])
    have HX : Hid (Ext w (w.alloc (.cells #[.string name, .int .i64 body, .slice A ss.length c] 48))) := Lib.hid (by repeat first | exact xe0 _ | assumption | refine xea ?_ _ | refine xed ?_ | refine xet ?_ (by assumption))
    obtain ⟨k0, k1, k2, kl⟩ := HB.out.c3
    go_wp2_with (first | (go_at_call 9; refine Calls.mono (CA.out _ (HT.out.ext (HX.out.trans (by repeat first | exact xe0 _ | assumption | refine xea ?_ _ | refine xed ?_ | refine xet ?_ (by assumption))))) ?_; rintro e w1 ⟨rfl, hb⟩; have HB9 := Lib.hid (HB.out.ext (Ext.trans (by repeat first | exact xe0 _ | assumption | refine xea ?_ _ | refine xed ?_ | refine xet ?_ (by assumption)) hb)); have HX9 := Lib.hid (HX.out.trans (Ext.trans (by repeat first | exact xe0 _ | assumption | refine xea ?_ _ | refine xed ?_ | refine xet ?_ (by assumption)) hb)); clear k0 k1 k2 kl HB HX; have HB := HB9; have HX := HX9; clear HB9 HX9; obtain ⟨k0, k1, k2, kl⟩ := HB.out.c3; (try (have q9 := Lib.hid (HLI.out.ext (Ext.trans (by repeat first | exact xe0 _ | assumption | refine xea ?_ _ | refine xed ?_ | refine xet ?_ (by assumption)) hb)); clear HLI; have HLI := q9; clear q9)); clear hb) | (go_at_call 34; refine Calls.mono (CS.out _ (HF.out.ext (HX.out.trans (by repeat first | exact xe0 _ | assumption | refine xea ?_ _ | refine xed ?_ | refine xet ?_ (by assumption))))) ?_; rintro e w1 ⟨rfl, hb⟩; have HB9 := Lib.hid (HB.out.ext (Ext.trans (by repeat first | exact xe0 _ | assumption | refine xea ?_ _ | refine xed ?_ | refine xet ?_ (by assumption)) hb)); have HX9 := Lib.hid (HX.out.trans (Ext.trans (by repeat first | exact xe0 _ | assumption | refine xea ?_ _ | refine xed ?_ | refine xet ?_ (by assumption)) hb)); clear k0 k1 k2 kl HB HX; have HB := HB9; have HX := HX9; clear HB9 HX9; obtain ⟨k0, k1, k2, kl⟩ := HB.out.c3; (try (have q9 := Lib.hid (HLI.out.ext (Ext.trans (by repeat first | exact xe0 _ | assumption | refine xea ?_ _ | refine xed ?_ | refine xet ?_ (by assumption)) hb)); clear HLI; have HLI := q9; clear q9)); clear hb))
    go_ret
    exact Ret.mk' rfl (HX.out.trans (by repeat first | exact xe0 _ | assumption | refine xea ?_ _ | refine xed ?_ | refine xet ?_ (by assumption)))
  | true =>
  simp only [hsl] at cS
  have hfew := few_123 (slim_few hsl)
  have cPF := fun W h => copyFountA_any name body ss A c W h hfew
  have CS := Lib.hid cS; have CPF := Lib.hid cPF; clear cS cPF hsl hfew
  rcases (show ((5 : Int) < (xs.length : Int) ∧ (xs.length : Int) ≤ 60) ∨ ((5 : Int) < (xs.length : Int) ∧ ¬ (xs.length : Int) ≤ 60 ∧ (62 : Int) < (xs.length : Int)) ∨ (¬ (5 : Int) < (xs.length : Int) ∧ ¬ (62 : Int) < (xs.length : Int)) ∨ ((5 : Int) < (xs.length : Int) ∧ ¬ (xs.length : Int) ≤ 60 ∧ ¬ (62 : Int) < (xs.length : Int)) by omega) with ⟨i1, i2⟩ | ⟨i1, i2, i3⟩ | ⟨i1, i3⟩ | ⟨i1, i2, i3⟩
  · skip
    go_enter Tryz.func5, Tryz.ntmps5
    have HB := Lib.hid (Blk.new w 48 #[.string name, .int .i64 body, .slice A ss.length c])
    have HX : Hid (Ext w (w.alloc (.cells #[.string name, .int .i64 body, .slice A ss.length c] 48))) := Lib.hid (by repeat first | exact xe0 _ | assumption | refine xea ?_ _ | refine xed ?_ | refine xet ?_ (by assumption))
    obtain ⟨k0, k1, k2, kl⟩ := HB.out.c3
    go_wp2_with (first | (go_at_call 9; refine Calls.mono (CA.out _ (HT.out.ext (HX.out.trans (by repeat first | exact xe0 _ | assumption | refine xea ?_ _ | refine xed ?_ | refine xet ?_ (by assumption))))) ?_; rintro e w1 ⟨rfl, hb⟩; have HB9 := Lib.hid (HB.out.ext (Ext.trans (by repeat first | exact xe0 _ | assumption | refine xea ?_ _ | refine xed ?_ | refine xet ?_ (by assumption)) hb)); have HX9 := Lib.hid (HX.out.trans (Ext.trans (by repeat first | exact xe0 _ | assumption | refine xea ?_ _ | refine xed ?_ | refine xet ?_ (by assumption)) hb)); clear k0 k1 k2 kl HB HX; have HB := HB9; have HX := HX9; clear HB9 HX9; obtain ⟨k0, k1, k2, kl⟩ := HB.out.c3; (try (have q9 := Lib.hid (HLI.out.ext (Ext.trans (by repeat first | exact xe0 _ | assumption | refine xea ?_ _ | refine xed ?_ | refine xet ?_ (by assumption)) hb)); clear HLI; have HLI := q9; clear q9)); clear hb) | (go_at_call 34; refine Calls.mono (CS.out _ (HF.out.ext (HX.out.trans (by repeat first | exact xe0 _ | assumption | refine xea ?_ _ | refine xed ?_ | refine xet ?_ (by assumption))))) ?_; rintro e w1 ⟨rfl, hb⟩; have HB9 := Lib.hid (HB.out.ext (Ext.trans (by repeat first | exact xe0 _ | assumption | refine xea ?_ _ | refine xed ?_ | refine xet ?_ (by assumption)) hb)); have HX9 := Lib.hid (HX.out.trans (Ext.trans (by repeat first | exact xe0 _ | assumption | refine xea ?_ _ | refine xed ?_ | refine xet ?_ (by assumption)) hb)); clear k0 k1 k2 kl HB HX; have HB := HB9; have HX := HX9; clear HB9 HX9; obtain ⟨k0, k1, k2, kl⟩ := HB.out.c3; (try (have q9 := Lib.hid (HLI.out.ext (Ext.trans (by repeat first | exact xe0 _ | assumption | refine xea ?_ _ | refine xed ?_ | refine xet ?_ (by assumption)) hb)); clear HLI; have HLI := q9; clear q9)); clear hb))
    go_ret
    exact Ret.mk' rfl (HX.out.trans (by repeat first | exact xe0 _ | assumption | refine xea ?_ _ | refine xed ?_ | refine xet ?_ (by assumption)))
  · skip
    go_enter Tryz.func5, Tryz.ntmps5
    have HB := Lib.hid (Blk.new w 48 #[.string name, .int .i64 body, .slice A ss.length c])
    have HX : Hid (Ext w (w.alloc (.cells #[.string name, .int .i64 body, .slice A ss.length c] 48))) := Lib.hid (by repeat first | exact xe0 _ | assumption | refine xea ?_ _ | refine xed ?_ | refine xet ?_ (by assumption))
    obtain ⟨k0, k1, k2, kl⟩ := HB.out.c3
    go_wp2_with (first | (go_at_call 9; refine Calls.mono (CA.out _ (HT.out.ext (HX.out.trans (by repeat first | exact xe0 _ | assumption | refine xea ?_ _ | refine xed ?_ | refine xet ?_ (by assumption))))) ?_; rintro e w1 ⟨rfl, hb⟩; have HB9 := Lib.hid (HB.out.ext (Ext.trans (by repeat first | exact xe0 _ | assumption | refine xea ?_ _ | refine xed ?_ | refine xet ?_ (by assumption)) hb)); have HX9 := Lib.hid (HX.out.trans (Ext.trans (by repeat first | exact xe0 _ | assumption | refine xea ?_ _ | refine xed ?_ | refine xet ?_ (by assumption)) hb)); clear k0 k1 k2 kl HB HX; have HB := HB9; have HX := HX9; clear HB9 HX9; obtain ⟨k0, k1, k2, kl⟩ := HB.out.c3; (try (have q9 := Lib.hid (HLI.out.ext (Ext.trans (by repeat first | exact xe0 _ | assumption | refine xea ?_ _ | refine xed ?_ | refine xet ?_ (by assumption)) hb)); clear HLI; have HLI := q9; clear q9)); clear hb) | (go_at_call 34; refine Calls.mono (CS.out _ (HF.out.ext (HX.out.trans (by repeat first | exact xe0 _ | assumption | refine xea ?_ _ | refine xed ?_ | refine xet ?_ (by assumption))))) ?_; rintro e w1 ⟨rfl, hb⟩; have HB9 := Lib.hid (HB.out.ext (Ext.trans (by repeat first | exact xe0 _ | assumption | refine xea ?_ _ | refine xed ?_ | refine xet ?_ (by assumption)) hb)); have HX9 := Lib.hid (HX.out.trans (Ext.trans (by repeat first | exact xe0 _ | assumption | refine xea ?_ _ | refine xed ?_ | refine xet ?_ (by assumption)) hb)); clear k0 k1 k2 kl HB HX; have HB := HB9; have HX := HX9; clear HB9 HX9; obtain ⟨k0, k1, k2, kl⟩ := HB.out.c3; (try (have q9 := Lib.hid (HLI.out.ext (Ext.trans (by repeat first | exact xe0 _ | assumption | refine xea ?_ _ | refine xed ?_ | refine xet ?_ (by assumption)) hb)); clear HLI; have HLI := q9; clear q9)); clear hb))
    go_ret
    exact Ret.mk' rfl (HX.out.trans (by repeat first | exact xe0 _ | assumption | refine xea ?_ _ | refine xed ?_ | refine xet ?_ (by assumption)))
  -- BEGIN A
  · skip
    go_enter Tryz.func5, Tryz.ntmps5
    have HB := Lib.hid (Blk.new w 48 #[.string name, .int .i64 body, .slice A ss.length c])
    have HX : Hid (Ext w (w.alloc (.cells #[.string name, .int .i64 body, .slice A ss.length c] 48))) := Lib.hid (by repeat first | exact xe0 _ | assumption | refine xea ?_ _ | refine xed ?_ | refine xet ?_ (by assumption))
    obtain ⟨k0, k1, k2, kl⟩ := HB.out.c3
    go_wp2_with (first | (go_at_call 9; refine Calls.mono (CA.out _ (HT.out.ext (HX.out.trans (by repeat first | exact xe0 _ | assumption | refine xea ?_ _ | refine xed ?_ | refine xet ?_ (by assumption))))) ?_; rintro e w1 ⟨rfl, hb⟩; have HB9 := Lib.hid (HB.out.ext (Ext.trans (by repeat first | exact xe0 _ | assumption | refine xea ?_ _ | refine xed ?_ | refine xet ?_ (by assumption)) hb)); have HX9 := Lib.hid (HX.out.trans (Ext.trans (by repeat first | exact xe0 _ | assumption | refine xea ?_ _ | refine xed ?_ | refine xet ?_ (by assumption)) hb)); clear k0 k1 k2 kl HB HX; have HB := HB9; have HX := HX9; clear HB9 HX9; obtain ⟨k0, k1, k2, kl⟩ := HB.out.c3; (try (have q9 := Lib.hid (HLI.out.ext (Ext.trans (by repeat first | exact xe0 _ | assumption | refine xea ?_ _ | refine xed ?_ | refine xet ?_ (by assumption)) hb)); clear HLI; have HLI := q9; clear q9)); clear hb) | (go_at_call 34; refine Calls.mono (CS.out _ (HF.out.ext (HX.out.trans (by repeat first | exact xe0 _ | assumption | refine xea ?_ _ | refine xed ?_ | refine xet ?_ (by assumption))))) ?_; rintro e w1 ⟨rfl, hb⟩; have HB9 := Lib.hid (HB.out.ext (Ext.trans (by repeat first | exact xe0 _ | assumption | refine xea ?_ _ | refine xed ?_ | refine xet ?_ (by assumption)) hb)); have HX9 := Lib.hid (HX.out.trans (Ext.trans (by repeat first | exact xe0 _ | assumption | refine xea ?_ _ | refine xed ?_ | refine xet ?_ (by assumption)) hb)); clear k0 k1 k2 kl HB HX; have HB := HB9; have HX := HX9; clear HB9 HX9; obtain ⟨k0, k1, k2, kl⟩ := HB.out.c3; (try (have q9 := Lib.hid (HLI.out.ext (Ext.trans (by repeat first | exact xe0 _ | assumption | refine xea ?_ _ | refine xed ?_ | refine xet ?_ (by assumption)) hb)); clear HLI; have HLI := q9; clear q9)); clear hb))
    have HB1 := HB
    have HX1 := HX
    clear k0 k1 k2 kl HB HX
    go_loopw [5, 6] (fun v j wr => ∃ (i : Nat) (tk : List S3), i ≤ xs.length ∧ j = .int .i64 (i : Int) ∧ Hid (Cps w wr xs i v tk) ∧ Hid (Blk wr w.heap.size 48 #[.string name, .int .i64 body, .slice A ss.length c]) ∧ Hid (Ext w wr)) (fun _ j _ => xs.length - (intOf j).toNat)
    case atStart => exact ⟨0, [], Nat.zero_le _, rfl, Lib.hid (Cps.start w _ xs), HB1, HX1⟩
    case round =>
      obtain ⟨i, tk, hi, rfl, HC, HB, HX⟩ := hrel
      clear HB1 HX1
      obtain ⟨k0, k1, k2, kl⟩ := HB.out.c3
      by_cases hlt : i < xs.length
      case pos =>
        have hii : (i : Int) < (xs.length : Int) := by omega
        obtain ⟨b, off, rfl, hbw, hcell⟩ := (HR.out.ext HX.out).2.2.1 (by omega)
        have hrl := (HR.out.ext HX.out).2.2.2 i hlt
        have ci := hcell i hlt
        have HSTP : Hid (∀ w1 W w' v v' s, Cps w w1 xs i v tk → Row3 w1 s ((xs.getD i S3.none_).rows.map SI.zs) → Blk w1 w.heap.size 48 #[.string name, .int .i64 body, .slice A ss.length c] → Ext w w1 → Ext w1 W → W.grownBy w' v.ownBlock → OwnLL w' (w.heap.size + 1) v' (tk ++ [s]) → Cps w w' xs (i + 1) v' (tk ++ [s]) ∧ Blk w' w.heap.size 48 #[.string name, .int .i64 body, .slice A ss.length c] ∧ Ext w w') := Lib.hid fun w1 W w' v v' s h1 h2 h3 h4 h5 h6 h7 => h1.step h2 h3 h4 h5 h6 h7
        clear hcell
        generalize xs.getD i S3.none_ = r at *
        obtain ⟨rA, rc, rws⟩ := r
        simp only [S3.val] at *
        have HRL := Lib.hid hrl
        have hrb := hrl.2.1
        clear hrl
        rcases (show ((5 : Int) < (rws.length : Int) ∧ (rws.length : Int) ≤ 60) ∨ ((5 : Int) < (rws.length : Int) ∧ ¬ (rws.length : Int) ≤ 60 ∧ (62 : Int) < (rws.length : Int)) ∨ (¬ (5 : Int) < (rws.length : Int) ∧ ¬ (62 : Int) < (rws.length : Int)) ∨ ((5 : Int) < (rws.length : Int) ∧ ¬ (rws.length : Int) ≤ 60 ∧ ¬ (62 : Int) < (rws.length : Int)) by omega) with ⟨i4, i5⟩ | ⟨i4, i5, i6⟩ | ⟨i4, i6⟩ | ⟨i4, i5, i6⟩
        · clear HSTP
          go_wp2
          go_ret
          exact Ret.mk' rfl (HX.out.trans (by repeat first | exact xe0 _ | assumption | refine xea ?_ _ | refine xed ?_ | refine xet ?_ (by assumption)))
        · clear HSTP
          go_wp2
          go_ret
          exact Ret.mk' rfl (HX.out.trans (by repeat first | exact xe0 _ | assumption | refine xea ?_ _ | refine xed ?_ | refine xet ?_ (by assumption)))
        · have CL0 := Lib.hid (fun W h (hq : ∀ q, q < rws.length → (rws.getD q SI.none_).zs.length ≤ 5) => copyLists_own rA rc rws W h (by omega) (fun q hk => Nat.le_trans (hq q hk) (by decide)))
          have HLL : Hid ((rws.map SI.zs).length ≤ 1000000) := Lib.hid (by rw [List.length_map]; omega)
          go_wp2
          go_loopw [7] (fun j wr2 => ∃ k : Nat, k ≤ rws.length ∧ j = .int .i64 (k : Int) ∧ wr2 = wr ∧ Hid (∀ q, q < k → (rws.getD q SI.none_).zs.length ≤ 5)) (fun j _ => rws.length - (intOf j).toNat)
          case atStart => exact ⟨0, Nat.zero_le _, rfl, rfl, Lib.hid fun q hq => absurd hq (by omega)⟩
          case round =>
            obtain ⟨k, hk, rfl, rfl, HK⟩ := hrel
            by_cases hkm : k < rws.length
            case pos =>
              have i9 : (k : Int) < (rws.length : Int) := by omega
              obtain ⟨rb, ro, rfl, hrb2, hrc⟩ := HRL.out.2.2.1 (by omega)
              have r1 := hrc k hkm
              have HKN : Hid ((rws.getD k SI.none_).zs.length ≤ 5 → ∀ q, q < k + 1 → (rws.getD q SI.none_).zs.length ≤ 5) := Lib.hid fun h q hq => by
                rcases Nat.lt_or_ge q k with h9 | h9
                · exact HK.out q h9
                · obtain rfl : q = k := by omega
                  exact h
              clear hrc
              generalize rws.getD k SI.none_ = s at *
              obtain ⟨sA, sc, zs⟩ := s
              simp only [SI.val] at *
              by_cases h5 : 5 < zs.length
              case pos =>
                have i10 : (5 : Int) < (zs.length : Int) := by omega
                clear HKN h5
                go_wp2
                go_ret
                exact Ret.mk' rfl (HX.out.trans (by repeat first | exact xe0 _ | assumption | refine xea ?_ _ | refine xed ?_ | refine xet ?_ (by assumption)))
              case neg =>
                have i10 : ¬ (5 : Int) < (zs.length : Int) := by omega
                have HK2 := Lib.hid (HKN.out (by omega))
                clear HKN h5
                go_wp2
                go_roundw
                case rel => exact ⟨k + 1, by omega, by go_num, by trivial, HK2⟩
                case measure => simp [intOf] <;> omega
            case neg =>
              obtain rfl : k = rws.length := by omega
              have i9 : ¬ (rws.length : Int) < (rws.length : Int) := by omega
              have CLS := Lib.hid (fun W h => CL0.out W h HK.out)
              have HTL := Lib.hid HC.out.len
              clear hkm HK
              go_wp2_with (first | (go_at_call 35; refine Calls.mono (CLS.out _ (HRL.out.ext (by repeat first | exact xe0 _ | assumption | refine xea ?_ _ | refine xed ?_ | refine xet ?_ (by assumption)))) ?_; rintro e w1 ⟨LA, lc, tk2, rfl, hcop⟩; have hb := hcop.ext; have HC2 := Lib.hid (HC.out.next (Ext.trans (by repeat first | exact xe0 _ | assumption | refine xea ?_ _ | refine xed ?_ | refine xet ?_ (by assumption)) hb)); have HB9 := Lib.hid (HB.out.ext (Ext.trans (by repeat first | exact xe0 _ | assumption | refine xea ?_ _ | refine xed ?_ | refine xet ?_ (by assumption)) hb)); have HX9 := Lib.hid (HX.out.trans (Ext.trans (by repeat first | exact xe0 _ | assumption | refine xea ?_ _ | refine xed ?_ | refine xet ?_ (by assumption)) hb)); clear k0 k1 k2 kl HB HX; have HB := HB9; have HX := HX9; clear HB9 HX9; obtain ⟨k0, k1, k2, kl⟩ := HB.out.c3; (try (have q9 := Lib.hid (HLI.out.ext (Ext.trans (by repeat first | exact xe0 _ | assumption | refine xea ?_ _ | refine xed ?_ | refine xet ?_ (by assumption)) hb)); clear HLI; have HLI := q9; clear q9)); have HS2 := Lib.hid (Row3.of_cop hcop HLL.out); clear hcop hb) | (at_builtin; refine list_pushLL rfl (.tmp 78) (.tmp 84) rfl (w.heap.size + 1) _ tk rfl (HC2.out.own.ext (by repeat first | exact xe0 _ | assumption | refine xea ?_ _ | refine xed ?_ | refine xet ?_ (by assumption))) w1.heap.size ⟨LA, lc, tk2⟩ rfl (by simp [S3.val]) (by have := HTL.out; omega) (by have := HB.out.lt; simp; omega) ?_; intro v' w' ho hg; have HST := Lib.hid (HSTP.out _ _ _ _ _ _ HC2.out HS2.out HB.out HX.out (by repeat first | exact xe0 _ | assumption | refine xea ?_ _ | refine xed ?_ | refine xet ?_ (by assumption)) hg ho); clear ho hg))
              go_roundw
              case rel => exact ⟨i + 1, _, by omega, by go_num, Lib.hid HST.out.1, Lib.hid HST.out.2.1, Lib.hid HST.out.2.2⟩
              case measure => simp [intOf] <;> omega
        · have CL0 := Lib.hid (fun W h (hq : ∀ q, q < rws.length → (rws.getD q SI.none_).zs.length ≤ 5) => copyLists_own rA rc rws W h (by omega) (fun q hk => Nat.le_trans (hq q hk) (by decide)))
          have HLL : Hid ((rws.map SI.zs).length ≤ 1000000) := Lib.hid (by rw [List.length_map]; omega)
          go_wp2
          go_loopw [7] (fun j wr2 => ∃ k : Nat, k ≤ rws.length ∧ j = .int .i64 (k : Int) ∧ wr2 = wr ∧ Hid (∀ q, q < k → (rws.getD q SI.none_).zs.length ≤ 5)) (fun j _ => rws.length - (intOf j).toNat)
          case atStart => exact ⟨0, Nat.zero_le _, rfl, rfl, Lib.hid fun q hq => absurd hq (by omega)⟩
          case round =>
            obtain ⟨k, hk, rfl, rfl, HK⟩ := hrel
            by_cases hkm : k < rws.length
            case pos =>
              have i9 : (k : Int) < (rws.length : Int) := by omega
              obtain ⟨rb, ro, rfl, hrb2, hrc⟩ := HRL.out.2.2.1 (by omega)
              have r1 := hrc k hkm
              have HKN : Hid ((rws.getD k SI.none_).zs.length ≤ 5 → ∀ q, q < k + 1 → (rws.getD q SI.none_).zs.length ≤ 5) := Lib.hid fun h q hq => by
                rcases Nat.lt_or_ge q k with h9 | h9
                · exact HK.out q h9
                · obtain rfl : q = k := by omega
                  exact h
              clear hrc
              generalize rws.getD k SI.none_ = s at *
              obtain ⟨sA, sc, zs⟩ := s
              simp only [SI.val] at *
              by_cases h5 : 5 < zs.length
              case pos =>
                have i10 : (5 : Int) < (zs.length : Int) := by omega
                clear HKN h5
                go_wp2
                go_ret
                exact Ret.mk' rfl (HX.out.trans (by repeat first | exact xe0 _ | assumption | refine xea ?_ _ | refine xed ?_ | refine xet ?_ (by assumption)))
              case neg =>
                have i10 : ¬ (5 : Int) < (zs.length : Int) := by omega
                have HK2 := Lib.hid (HKN.out (by omega))
                clear HKN h5
                go_wp2
                go_roundw
                case rel => exact ⟨k + 1, by omega, by go_num, by trivial, HK2⟩
                case measure => simp [intOf] <;> omega
            case neg =>
              obtain rfl : k = rws.length := by omega
              have i9 : ¬ (rws.length : Int) < (rws.length : Int) := by omega
              have CLS := Lib.hid (fun W h => CL0.out W h HK.out)
              have HTL := Lib.hid HC.out.len
              clear hkm HK
              go_wp2_with (first | (go_at_call 35; refine Calls.mono (CLS.out _ (HRL.out.ext (by repeat first | exact xe0 _ | assumption | refine xea ?_ _ | refine xed ?_ | refine xet ?_ (by assumption)))) ?_; rintro e w1 ⟨LA, lc, tk2, rfl, hcop⟩; have hb := hcop.ext; have HC2 := Lib.hid (HC.out.next (Ext.trans (by repeat first | exact xe0 _ | assumption | refine xea ?_ _ | refine xed ?_ | refine xet ?_ (by assumption)) hb)); have HB9 := Lib.hid (HB.out.ext (Ext.trans (by repeat first | exact xe0 _ | assumption | refine xea ?_ _ | refine xed ?_ | refine xet ?_ (by assumption)) hb)); have HX9 := Lib.hid (HX.out.trans (Ext.trans (by repeat first | exact xe0 _ | assumption | refine xea ?_ _ | refine xed ?_ | refine xet ?_ (by assumption)) hb)); clear k0 k1 k2 kl HB HX; have HB := HB9; have HX := HX9; clear HB9 HX9; obtain ⟨k0, k1, k2, kl⟩ := HB.out.c3; (try (have q9 := Lib.hid (HLI.out.ext (Ext.trans (by repeat first | exact xe0 _ | assumption | refine xea ?_ _ | refine xed ?_ | refine xet ?_ (by assumption)) hb)); clear HLI; have HLI := q9; clear q9)); have HS2 := Lib.hid (Row3.of_cop hcop HLL.out); clear hcop hb) | (at_builtin; refine list_pushLL rfl (.tmp 78) (.tmp 84) rfl (w.heap.size + 1) _ tk rfl (HC2.out.own.ext (by repeat first | exact xe0 _ | assumption | refine xea ?_ _ | refine xed ?_ | refine xet ?_ (by assumption))) w1.heap.size ⟨LA, lc, tk2⟩ rfl (by simp [S3.val]) (by have := HTL.out; omega) (by have := HB.out.lt; simp; omega) ?_; intro v' w' ho hg; have HST := Lib.hid (HSTP.out _ _ _ _ _ _ HC2.out HS2.out HB.out HX.out (by repeat first | exact xe0 _ | assumption | refine xea ?_ _ | refine xed ?_ | refine xet ?_ (by assumption)) hg ho); clear ho hg))
              go_roundw
              case rel => exact ⟨i + 1, _, by omega, by go_num, Lib.hid HST.out.1, Lib.hid HST.out.2.1, Lib.hid HST.out.2.2⟩
              case measure => simp [intOf] <;> omega
      case neg =>
        obtain rfl : i = xs.length := by omega
        have ilt : ¬ (xs.length : Int) < (xs.length : Int) := by omega
        have hsame := HC.out.same
        have hlen := HC.out.len
        have htk : tk.length ≤ 1000000 := by omega
        obtain ⟨A9, c9, rfl, hr3⟩ := HC.out.r3 (by omega)
        have HR3 := Lib.hid hr3
        have cPC := fun A c B d W h k => pCol_any ⟨name, body, ss⟩ A c B d tk W h k
        have cER := fun W h => rErr_any ⟨name, body, ss⟩ A c W h
        by_cases hz : (chk ⟨name, body, ss⟩).2 = 0
        case pos =>
          have hE : pColE ⟨name, body, ss⟩ tk = colE ss.length xs := by unfold pColE; rw [if_neg (by simpa using hz)]; exact colE_same hlen hsame _
          have hL : pColL ⟨name, body, ss⟩ tk = colL ss xs := by unfold pColL; rw [if_neg (by simpa using hz)]; exact colL_same hlen hsame _
          have cRC := fun W h k => rCol_any ⟨name, body, ss⟩ A c B d xs W h k hz
          simp only [hE, hL, FT.val] at cPC
          simp only [hz, FT.val] at cER
          simp only [FT.val] at cRC
          clear hE hL hz hsame hlen hr3 HC hlt hi htk
          generalize colE ss.length xs = E at *
          generalize colL ss xs = L at *
          have CPC := Lib.hid cPC; have CER := Lib.hid cER; have CRC := Lib.hid cRC
          clear cPC cER cRC
          go_wp2_with (first | (go_at_call 24; refine Calls.mono (CPF.out _ (HF.out.ext (HX.out.trans (by repeat first | exact xe0 _ | assumption | refine xea ?_ _ | refine xed ?_ | refine xet ?_ (by assumption))))) ?_; rintro e w1 ⟨FA, fc, rfl, hfa, hb⟩; have HR8 := Lib.hid (HR3.out.ext (Ext.trans (by repeat first | exact xe0 _ | assumption | refine xea ?_ _ | refine xed ?_ | refine xet ?_ (by assumption)) hb)); clear HR3; have HB9 := Lib.hid (HB.out.ext (Ext.trans (by repeat first | exact xe0 _ | assumption | refine xea ?_ _ | refine xed ?_ | refine xet ?_ (by assumption)) hb)); have HX9 := Lib.hid (HX.out.trans (Ext.trans (by repeat first | exact xe0 _ | assumption | refine xea ?_ _ | refine xed ?_ | refine xet ?_ (by assumption)) hb)); clear k0 k1 k2 kl HB HX; have HB := HB9; have HX := HX9; clear HB9 HX9; obtain ⟨k0, k1, k2, kl⟩ := HB.out.c3; (try (have q9 := Lib.hid (HLI.out.ext (Ext.trans (by repeat first | exact xe0 _ | assumption | refine xea ?_ _ | refine xed ?_ | refine xet ?_ (by assumption)) hb)); clear HLI; have HLI := q9; clear q9)); have HCF := Lib.hid hfa; clear hfa hb) | (go_at_call 36; refine Calls.mono (CPC.out _ _ _ _ _ (HCF.out.ext (by repeat first | exact xe0 _ | assumption | refine xea ?_ _ | refine xed ?_ | refine xet ?_ (by assumption))) (HR8.out.ext (by repeat first | exact xe0 _ | assumption | refine xea ?_ _ | refine xed ?_ | refine xet ?_ (by assumption)))) ?_; rintro e w1 ⟨LA, lc, rfl, hri, hb⟩; have HB9 := Lib.hid (HB.out.ext (Ext.trans (by repeat first | exact xe0 _ | assumption | refine xea ?_ _ | refine xed ?_ | refine xet ?_ (by assumption)) hb)); have HX9 := Lib.hid (HX.out.trans (Ext.trans (by repeat first | exact xe0 _ | assumption | refine xea ?_ _ | refine xed ?_ | refine xet ?_ (by assumption)) hb)); clear k0 k1 k2 kl HB HX; have HB := HB9; have HX := HX9; clear HB9 HX9; obtain ⟨k0, k1, k2, kl⟩ := HB.out.c3; (try (have q9 := Lib.hid (HLI.out.ext (Ext.trans (by repeat first | exact xe0 _ | assumption | refine xea ?_ _ | refine xed ?_ | refine xet ?_ (by assumption)) hb)); clear HLI; have HLI := q9; clear q9)); have HLI := Lib.hid hri; clear hri hb) | (go_at_call 28; refine Calls.mono (CER.out _ (HF.out.ext (HX.out.trans (by repeat first | exact xe0 _ | assumption | refine xea ?_ _ | refine xed ?_ | refine xet ?_ (by assumption))))) ?_; rintro e w1 ⟨rfl, hb⟩; have HB9 := Lib.hid (HB.out.ext (Ext.trans (by repeat first | exact xe0 _ | assumption | refine xea ?_ _ | refine xed ?_ | refine xet ?_ (by assumption)) hb)); have HX9 := Lib.hid (HX.out.trans (Ext.trans (by repeat first | exact xe0 _ | assumption | refine xea ?_ _ | refine xed ?_ | refine xet ?_ (by assumption)) hb)); clear k0 k1 k2 kl HB HX; have HB := HB9; have HX := HX9; clear HB9 HX9; obtain ⟨k0, k1, k2, kl⟩ := HB.out.c3; (try (have q9 := Lib.hid (HLI.out.ext (Ext.trans (by repeat first | exact xe0 _ | assumption | refine xea ?_ _ | refine xed ?_ | refine xet ?_ (by assumption)) hb)); clear HLI; have HLI := q9; clear q9)); clear hb) | (go_at_call 37; refine Calls.mono (CRC.out _ (HF.out.ext (HX.out.trans (by repeat first | exact xe0 _ | assumption | refine xea ?_ _ | refine xed ?_ | refine xet ?_ (by assumption)))) (HR.out.ext (HX.out.trans (by repeat first | exact xe0 _ | assumption | refine xea ?_ _ | refine xed ?_ | refine xet ?_ (by assumption))))) ?_; rintro e w1 ⟨RA, rc, rfl, hri, hb⟩; have HB9 := Lib.hid (HB.out.ext (Ext.trans (by repeat first | exact xe0 _ | assumption | refine xea ?_ _ | refine xed ?_ | refine xet ?_ (by assumption)) hb)); have HX9 := Lib.hid (HX.out.trans (Ext.trans (by repeat first | exact xe0 _ | assumption | refine xea ?_ _ | refine xed ?_ | refine xet ?_ (by assumption)) hb)); clear k0 k1 k2 kl HB HX; have HB := HB9; have HX := HX9; clear HB9 HX9; obtain ⟨k0, k1, k2, kl⟩ := HB.out.c3; (try (have q9 := Lib.hid (HLI.out.ext (Ext.trans (by repeat first | exact xe0 _ | assumption | refine xea ?_ _ | refine xed ?_ | refine xet ?_ (by assumption)) hb)); clear HLI; have HLI := q9; clear q9)); have HRI := Lib.hid hri; clear hri hb) | (go_at_call 18; refine Calls.mono (ints_same _ _ _ _ L _ (HLI.out.ext (by repeat first | exact xe0 _ | assumption | refine xea ?_ _ | refine xed ?_ | refine xet ?_ (by assumption))) (HRI.out.ext (by repeat first | exact xe0 _ | assumption | refine xea ?_ _ | refine xed ?_ | refine xet ?_ (by assumption)))) ?_; rintro e w1 ⟨rfl, hb⟩; have HB9 := Lib.hid (HB.out.ext (Ext.trans (by repeat first | exact xe0 _ | assumption | refine xea ?_ _ | refine xed ?_ | refine xet ?_ (by assumption)) hb)); have HX9 := Lib.hid (HX.out.trans (Ext.trans (by repeat first | exact xe0 _ | assumption | refine xea ?_ _ | refine xed ?_ | refine xet ?_ (by assumption)) hb)); clear k0 k1 k2 kl HB HX; have HB := HB9; have HX := HX9; clear HB9 HX9; obtain ⟨k0, k1, k2, kl⟩ := HB.out.c3; (try (have q9 := Lib.hid (HLI.out.ext (Ext.trans (by repeat first | exact xe0 _ | assumption | refine xea ?_ _ | refine xed ?_ | refine xet ?_ (by assumption)) hb)); clear HLI; have HLI := q9; clear q9)); clear hb))
          go_ret
          exact Ret.mk' (by simp) (HX.out.trans (by repeat first | exact xe0 _ | assumption | refine xea ?_ _ | refine xed ?_ | refine xet ?_ (by assumption)))
        case neg =>
          obtain ⟨L, hL0⟩ : ∃ L, L = ([] : List Int) := ⟨_, rfl⟩
          have hE : pColE ⟨name, body, ss⟩ tk = (chk ⟨name, body, ss⟩).2 := by unfold pColE; rw [if_pos hz]
          have hL : pColL ⟨name, body, ss⟩ tk = L := by unfold pColL; rw [if_pos hz, hL0]
          have e1 : ((chk ⟨name, body, ss⟩).2 == 0) = false := by simpa using hz
          have HL0 := Lib.hid hL0
          simp only [hE, hL, FT.val] at cPC
          simp only [FT.val] at cER
          clear hE hL hz hsame hlen hr3 HC hlt hi htk hL0
          generalize (chk ⟨name, body, ss⟩).2 = z at *
          have CPC := Lib.hid cPC; have CER := Lib.hid cER
          clear cPC cER
          go_wp2_with (first | (go_at_call 24; refine Calls.mono (CPF.out _ (HF.out.ext (HX.out.trans (by repeat first | exact xe0 _ | assumption | refine xea ?_ _ | refine xed ?_ | refine xet ?_ (by assumption))))) ?_; rintro e w1 ⟨FA, fc, rfl, hfa, hb⟩; have HR8 := Lib.hid (HR3.out.ext (Ext.trans (by repeat first | exact xe0 _ | assumption | refine xea ?_ _ | refine xed ?_ | refine xet ?_ (by assumption)) hb)); clear HR3; have HB9 := Lib.hid (HB.out.ext (Ext.trans (by repeat first | exact xe0 _ | assumption | refine xea ?_ _ | refine xed ?_ | refine xet ?_ (by assumption)) hb)); have HX9 := Lib.hid (HX.out.trans (Ext.trans (by repeat first | exact xe0 _ | assumption | refine xea ?_ _ | refine xed ?_ | refine xet ?_ (by assumption)) hb)); clear k0 k1 k2 kl HB HX; have HB := HB9; have HX := HX9; clear HB9 HX9; obtain ⟨k0, k1, k2, kl⟩ := HB.out.c3; (try (have q9 := Lib.hid (HLI.out.ext (Ext.trans (by repeat first | exact xe0 _ | assumption | refine xea ?_ _ | refine xed ?_ | refine xet ?_ (by assumption)) hb)); clear HLI; have HLI := q9; clear q9)); have HCF := Lib.hid hfa; clear hfa hb) | (go_at_call 36; refine Calls.mono (CPC.out _ _ _ _ _ (HCF.out.ext (by repeat first | exact xe0 _ | assumption | refine xea ?_ _ | refine xed ?_ | refine xet ?_ (by assumption))) (HR8.out.ext (by repeat first | exact xe0 _ | assumption | refine xea ?_ _ | refine xed ?_ | refine xet ?_ (by assumption)))) ?_; rintro e w1 ⟨LA, lc, rfl, hri, hb⟩; have HB9 := Lib.hid (HB.out.ext (Ext.trans (by repeat first | exact xe0 _ | assumption | refine xea ?_ _ | refine xed ?_ | refine xet ?_ (by assumption)) hb)); have HX9 := Lib.hid (HX.out.trans (Ext.trans (by repeat first | exact xe0 _ | assumption | refine xea ?_ _ | refine xed ?_ | refine xet ?_ (by assumption)) hb)); clear k0 k1 k2 kl HB HX; have HB := HB9; have HX := HX9; clear HB9 HX9; obtain ⟨k0, k1, k2, kl⟩ := HB.out.c3; (try (have q9 := Lib.hid (HLI.out.ext (Ext.trans (by repeat first | exact xe0 _ | assumption | refine xea ?_ _ | refine xed ?_ | refine xet ?_ (by assumption)) hb)); clear HLI; have HLI := q9; clear q9)); have HLI := Lib.hid hri; clear hri hb) | (go_at_call 28; refine Calls.mono (CER.out _ (HF.out.ext (HX.out.trans (by repeat first | exact xe0 _ | assumption | refine xea ?_ _ | refine xed ?_ | refine xet ?_ (by assumption))))) ?_; rintro e w1 ⟨rfl, hb⟩; have HB9 := Lib.hid (HB.out.ext (Ext.trans (by repeat first | exact xe0 _ | assumption | refine xea ?_ _ | refine xed ?_ | refine xet ?_ (by assumption)) hb)); have HX9 := Lib.hid (HX.out.trans (Ext.trans (by repeat first | exact xe0 _ | assumption | refine xea ?_ _ | refine xed ?_ | refine xet ?_ (by assumption)) hb)); clear k0 k1 k2 kl HB HX; have HB := HB9; have HX := HX9; clear HB9 HX9; obtain ⟨k0, k1, k2, kl⟩ := HB.out.c3; (try (have q9 := Lib.hid (HLI.out.ext (Ext.trans (by repeat first | exact xe0 _ | assumption | refine xea ?_ _ | refine xed ?_ | refine xet ?_ (by assumption)) hb)); clear HLI; have HLI := q9; clear q9)); clear hb) | (go_at_call 18; refine Calls.mono (ints_nil _ _ L _ (HLI.out.ext (by repeat first | exact xe0 _ | assumption | refine xea ?_ _ | refine xed ?_ | refine xet ?_ (by assumption))) HL0.out) ?_; rintro e w1 ⟨rfl, hb⟩; have HB9 := Lib.hid (HB.out.ext (Ext.trans (by repeat first | exact xe0 _ | assumption | refine xea ?_ _ | refine xed ?_ | refine xet ?_ (by assumption)) hb)); have HX9 := Lib.hid (HX.out.trans (Ext.trans (by repeat first | exact xe0 _ | assumption | refine xea ?_ _ | refine xed ?_ | refine xet ?_ (by assumption)) hb)); clear k0 k1 k2 kl HB HX; have HB := HB9; have HX := HX9; clear HB9 HX9; obtain ⟨k0, k1, k2, kl⟩ := HB.out.c3; (try (have q9 := Lib.hid (HLI.out.ext (Ext.trans (by repeat first | exact xe0 _ | assumption | refine xea ?_ _ | refine xed ?_ | refine xet ?_ (by assumption)) hb)); clear HLI; have HLI := q9; clear q9)); clear hb))
          go_ret
          exact Ret.mk' (by simp) (HX.out.trans (by repeat first | exact xe0 _ | assumption | refine xea ?_ _ | refine xed ?_ | refine xet ?_ (by assumption)))
  -- END A
  -- BEGIN B
  · skip
    go_enter Tryz.func5, Tryz.ntmps5
    have HB := Lib.hid (Blk.new w 48 #[.string name, .int .i64 body, .slice A ss.length c])
    have HX : Hid (Ext w (w.alloc (.cells #[.string name, .int .i64 body, .slice A ss.length c] 48))) := Lib.hid (by repeat first | exact xe0 _ | assumption | refine xea ?_ _ | refine xed ?_ | refine xet ?_ (by assumption))
    obtain ⟨k0, k1, k2, kl⟩ := HB.out.c3
    go_wp2_with (first | (go_at_call 9; refine Calls.mono (CA.out _ (HT.out.ext (HX.out.trans (by repeat first | exact xe0 _ | assumption | refine xea ?_ _ | refine xed ?_ | refine xet ?_ (by assumption))))) ?_; rintro e w1 ⟨rfl, hb⟩; have HB9 := Lib.hid (HB.out.ext (Ext.trans (by repeat first | exact xe0 _ | assumption | refine xea ?_ _ | refine xed ?_ | refine xet ?_ (by assumption)) hb)); have HX9 := Lib.hid (HX.out.trans (Ext.trans (by repeat first | exact xe0 _ | assumption | refine xea ?_ _ | refine xed ?_ | refine xet ?_ (by assumption)) hb)); clear k0 k1 k2 kl HB HX; have HB := HB9; have HX := HX9; clear HB9 HX9; obtain ⟨k0, k1, k2, kl⟩ := HB.out.c3; (try (have q9 := Lib.hid (HLI.out.ext (Ext.trans (by repeat first | exact xe0 _ | assumption | refine xea ?_ _ | refine xed ?_ | refine xet ?_ (by assumption)) hb)); clear HLI; have HLI := q9; clear q9)); clear hb) | (go_at_call 34; refine Calls.mono (CS.out _ (HF.out.ext (HX.out.trans (by repeat first | exact xe0 _ | assumption | refine xea ?_ _ | refine xed ?_ | refine xet ?_ (by assumption))))) ?_; rintro e w1 ⟨rfl, hb⟩; have HB9 := Lib.hid (HB.out.ext (Ext.trans (by repeat first | exact xe0 _ | assumption | refine xea ?_ _ | refine xed ?_ | refine xet ?_ (by assumption)) hb)); have HX9 := Lib.hid (HX.out.trans (Ext.trans (by repeat first | exact xe0 _ | assumption | refine xea ?_ _ | refine xed ?_ | refine xet ?_ (by assumption)) hb)); clear k0 k1 k2 kl HB HX; have HB := HB9; have HX := HX9; clear HB9 HX9; obtain ⟨k0, k1, k2, kl⟩ := HB.out.c3; (try (have q9 := Lib.hid (HLI.out.ext (Ext.trans (by repeat first | exact xe0 _ | assumption | refine xea ?_ _ | refine xed ?_ | refine xet ?_ (by assumption)) hb)); clear HLI; have HLI := q9; clear q9)); clear hb))
    have HB1 := HB
    have HX1 := HX
    clear k0 k1 k2 kl HB HX
    go_loopw [5, 6] (fun v j wr => ∃ (i : Nat) (tk : List S3), i ≤ xs.length ∧ j = .int .i64 (i : Int) ∧ Hid (Cps w wr xs i v tk) ∧ Hid (Blk wr w.heap.size 48 #[.string name, .int .i64 body, .slice A ss.length c]) ∧ Hid (Ext w wr)) (fun _ j _ => xs.length - (intOf j).toNat)
    case atStart => exact ⟨0, [], Nat.zero_le _, rfl, Lib.hid (Cps.start w _ xs), HB1, HX1⟩
    case round =>
      obtain ⟨i, tk, hi, rfl, HC, HB, HX⟩ := hrel
      clear HB1 HX1
      obtain ⟨k0, k1, k2, kl⟩ := HB.out.c3
      by_cases hlt : i < xs.length
      case pos =>
        have hii : (i : Int) < (xs.length : Int) := by omega
        obtain ⟨b, off, rfl, hbw, hcell⟩ := (HR.out.ext HX.out).2.2.1 (by omega)
        have hrl := (HR.out.ext HX.out).2.2.2 i hlt
        have ci := hcell i hlt
        have HSTP : Hid (∀ w1 W w' v v' s, Cps w w1 xs i v tk → Row3 w1 s ((xs.getD i S3.none_).rows.map SI.zs) → Blk w1 w.heap.size 48 #[.string name, .int .i64 body, .slice A ss.length c] → Ext w w1 → Ext w1 W → W.grownBy w' v.ownBlock → OwnLL w' (w.heap.size + 1) v' (tk ++ [s]) → Cps w w' xs (i + 1) v' (tk ++ [s]) ∧ Blk w' w.heap.size 48 #[.string name, .int .i64 body, .slice A ss.length c] ∧ Ext w w') := Lib.hid fun w1 W w' v v' s h1 h2 h3 h4 h5 h6 h7 => h1.step h2 h3 h4 h5 h6 h7
        clear hcell
        generalize xs.getD i S3.none_ = r at *
        obtain ⟨rA, rc, rws⟩ := r
        simp only [S3.val] at *
        have HRL := Lib.hid hrl
        have hrb := hrl.2.1
        clear hrl
        rcases (show ((5 : Int) < (rws.length : Int) ∧ (rws.length : Int) ≤ 60) ∨ ((5 : Int) < (rws.length : Int) ∧ ¬ (rws.length : Int) ≤ 60 ∧ (62 : Int) < (rws.length : Int)) ∨ (¬ (5 : Int) < (rws.length : Int) ∧ ¬ (62 : Int) < (rws.length : Int)) ∨ ((5 : Int) < (rws.length : Int) ∧ ¬ (rws.length : Int) ≤ 60 ∧ ¬ (62 : Int) < (rws.length : Int)) by omega) with ⟨i4, i5⟩ | ⟨i4, i5, i6⟩ | ⟨i4, i6⟩ | ⟨i4, i5, i6⟩
        · clear HSTP
          go_wp2
          go_ret
          exact Ret.mk' rfl (HX.out.trans (by repeat first | exact xe0 _ | assumption | refine xea ?_ _ | refine xed ?_ | refine xet ?_ (by assumption)))
        · clear HSTP
          go_wp2
          go_ret
          exact Ret.mk' rfl (HX.out.trans (by repeat first | exact xe0 _ | assumption | refine xea ?_ _ | refine xed ?_ | refine xet ?_ (by assumption)))
        · have CL0 := Lib.hid (fun W h (hq : ∀ q, q < rws.length → (rws.getD q SI.none_).zs.length ≤ 5) => copyLists_own rA rc rws W h (by omega) (fun q hk => Nat.le_trans (hq q hk) (by decide)))
          have HLL : Hid ((rws.map SI.zs).length ≤ 1000000) := Lib.hid (by rw [List.length_map]; omega)
          go_wp2
          go_loopw [7] (fun j wr2 => ∃ k : Nat, k ≤ rws.length ∧ j = .int .i64 (k : Int) ∧ wr2 = wr ∧ Hid (∀ q, q < k → (rws.getD q SI.none_).zs.length ≤ 5)) (fun j _ => rws.length - (intOf j).toNat)
          case atStart => exact ⟨0, Nat.zero_le _, rfl, rfl, Lib.hid fun q hq => absurd hq (by omega)⟩
          case round =>
            obtain ⟨k, hk, rfl, rfl, HK⟩ := hrel
            by_cases hkm : k < rws.length
            case pos =>
              have i9 : (k : Int) < (rws.length : Int) := by omega
              obtain ⟨rb, ro, rfl, hrb2, hrc⟩ := HRL.out.2.2.1 (by omega)
              have r1 := hrc k hkm
              have HKN : Hid ((rws.getD k SI.none_).zs.length ≤ 5 → ∀ q, q < k + 1 → (rws.getD q SI.none_).zs.length ≤ 5) := Lib.hid fun h q hq => by
                rcases Nat.lt_or_ge q k with h9 | h9
                · exact HK.out q h9
                · obtain rfl : q = k := by omega
                  exact h
              clear hrc
              generalize rws.getD k SI.none_ = s at *
              obtain ⟨sA, sc, zs⟩ := s
              simp only [SI.val] at *
              by_cases h5 : 5 < zs.length
              case pos =>
                have i10 : (5 : Int) < (zs.length : Int) := by omega
                clear HKN h5
                go_wp2
                go_ret
                exact Ret.mk' rfl (HX.out.trans (by repeat first | exact xe0 _ | assumption | refine xea ?_ _ | refine xed ?_ | refine xet ?_ (by assumption)))
              case neg =>
                have i10 : ¬ (5 : Int) < (zs.length : Int) := by omega
                have HK2 := Lib.hid (HKN.out (by omega))
                clear HKN h5
                go_wp2
                go_roundw
                case rel => exact ⟨k + 1, by omega, by go_num, by trivial, HK2⟩
                case measure => simp [intOf] <;> omega
            case neg =>
              obtain rfl : k = rws.length := by omega
              have i9 : ¬ (rws.length : Int) < (rws.length : Int) := by omega
              have CLS := Lib.hid (fun W h => CL0.out W h HK.out)
              have HTL := Lib.hid HC.out.len
              clear hkm HK
              go_wp2_with (first | (go_at_call 35; refine Calls.mono (CLS.out _ (HRL.out.ext (by repeat first | exact xe0 _ | assumption | refine xea ?_ _ | refine xed ?_ | refine xet ?_ (by assumption)))) ?_; rintro e w1 ⟨LA, lc, tk2, rfl, hcop⟩; have hb := hcop.ext; have HC2 := Lib.hid (HC.out.next (Ext.trans (by repeat first | exact xe0 _ | assumption | refine xea ?_ _ | refine xed ?_ | refine xet ?_ (by assumption)) hb)); have HB9 := Lib.hid (HB.out.ext (Ext.trans (by repeat first | exact xe0 _ | assumption | refine xea ?_ _ | refine xed ?_ | refine xet ?_ (by assumption)) hb)); have HX9 := Lib.hid (HX.out.trans (Ext.trans (by repeat first | exact xe0 _ | assumption | refine xea ?_ _ | refine xed ?_ | refine xet ?_ (by assumption)) hb)); clear k0 k1 k2 kl HB HX; have HB := HB9; have HX := HX9; clear HB9 HX9; obtain ⟨k0, k1, k2, kl⟩ := HB.out.c3; (try (have q9 := Lib.hid (HLI.out.ext (Ext.trans (by repeat first | exact xe0 _ | assumption | refine xea ?_ _ | refine xed ?_ | refine xet ?_ (by assumption)) hb)); clear HLI; have HLI := q9; clear q9)); have HS2 := Lib.hid (Row3.of_cop hcop HLL.out); clear hcop hb) | (at_builtin; refine list_pushLL rfl (.tmp 78) (.tmp 84) rfl (w.heap.size + 1) _ tk rfl (HC2.out.own.ext (by repeat first | exact xe0 _ | assumption | refine xea ?_ _ | refine xed ?_ | refine xet ?_ (by assumption))) w1.heap.size ⟨LA, lc, tk2⟩ rfl (by simp [S3.val]) (by have := HTL.out; omega) (by have := HB.out.lt; simp; omega) ?_; intro v' w' ho hg; have HST := Lib.hid (HSTP.out _ _ _ _ _ _ HC2.out HS2.out HB.out HX.out (by repeat first | exact xe0 _ | assumption | refine xea ?_ _ | refine xed ?_ | refine xet ?_ (by assumption)) hg ho); clear ho hg))
              go_roundw
              case rel => exact ⟨i + 1, _, by omega, by go_num, Lib.hid HST.out.1, Lib.hid HST.out.2.1, Lib.hid HST.out.2.2⟩
              case measure => simp [intOf] <;> omega
        · have CL0 := Lib.hid (fun W h (hq : ∀ q, q < rws.length → (rws.getD q SI.none_).zs.length ≤ 5) => copyLists_own rA rc rws W h (by omega) (fun q hk => Nat.le_trans (hq q hk) (by decide)))
          have HLL : Hid ((rws.map SI.zs).length ≤ 1000000) := Lib.hid (by rw [List.length_map]; omega)
          go_wp2
          go_loopw [7] (fun j wr2 => ∃ k : Nat, k ≤ rws.length ∧ j = .int .i64 (k : Int) ∧ wr2 = wr ∧ Hid (∀ q, q < k → (rws.getD q SI.none_).zs.length ≤ 5)) (fun j _ => rws.length - (intOf j).toNat)
          case atStart => exact ⟨0, Nat.zero_le _, rfl, rfl, Lib.hid fun q hq => absurd hq (by omega)⟩
          case round =>
            obtain ⟨k, hk, rfl, rfl, HK⟩ := hrel
            by_cases hkm : k < rws.length
            case pos =>
              have i9 : (k : Int) < (rws.length : Int) := by omega
              obtain ⟨rb, ro, rfl, hrb2, hrc⟩ := HRL.out.2.2.1 (by omega)
              have r1 := hrc k hkm
              have HKN : Hid ((rws.getD k SI.none_).zs.length ≤ 5 → ∀ q, q < k + 1 → (rws.getD q SI.none_).zs.length ≤ 5) := Lib.hid fun h q hq => by
                rcases Nat.lt_or_ge q k with h9 | h9
                · exact HK.out q h9
                · obtain rfl : q = k := by omega
                  exact h
              clear hrc
              generalize rws.getD k SI.none_ = s at *
              obtain ⟨sA, sc, zs⟩ := s
              simp only [SI.val] at *
              by_cases h5 : 5 < zs.length
              case pos =>
                have i10 : (5 : Int) < (zs.length : Int) := by omega
                clear HKN h5
                go_wp2
                go_ret
                exact Ret.mk' rfl (HX.out.trans (by repeat first | exact xe0 _ | assumption | refine xea ?_ _ | refine xed ?_ | refine xet ?_ (by assumption)))
              case neg =>
                have i10 : ¬ (5 : Int) < (zs.length : Int) := by omega
                have HK2 := Lib.hid (HKN.out (by omega))
                clear HKN h5
                go_wp2
                go_roundw
                case rel => exact ⟨k + 1, by omega, by go_num, by trivial, HK2⟩
                case measure => simp [intOf] <;> omega
            case neg =>
              obtain rfl : k = rws.length := by omega
              have i9 : ¬ (rws.length : Int) < (rws.length : Int) := by omega
              have CLS := Lib.hid (fun W h => CL0.out W h HK.out)
              have HTL := Lib.hid HC.out.len
              clear hkm HK
              go_wp2_with (first | (go_at_call 35; refine Calls.mono (CLS.out _ (HRL.out.ext (by repeat first | exact xe0 _ | assumption | refine xea ?_ _ | refine xed ?_ | refine xet ?_ (by assumption)))) ?_; rintro e w1 ⟨LA, lc, tk2, rfl, hcop⟩; have hb := hcop.ext; have HC2 := Lib.hid (HC.out.next (Ext.trans (by repeat first | exact xe0 _ | assumption | refine xea ?_ _ | refine xed ?_ | refine xet ?_ (by assumption)) hb)); have HB9 := Lib.hid (HB.out.ext (Ext.trans (by repeat first | exact xe0 _ | assumption | refine xea ?_ _ | refine xed ?_ | refine xet ?_ (by assumption)) hb)); have HX9 := Lib.hid (HX.out.trans (Ext.trans (by repeat first | exact xe0 _ | assumption | refine xea ?_ _ | refine xed ?_ | refine xet ?_ (by assumption)) hb)); clear k0 k1 k2 kl HB HX; have HB := HB9; have HX := HX9; clear HB9 HX9; obtain ⟨k0, k1, k2, kl⟩ := HB.out.c3; (try (have q9 := Lib.hid (HLI.out.ext (Ext.trans (by repeat first | exact xe0 _ | assumption | refine xea ?_ _ | refine xed ?_ | refine xet ?_ (by assumption)) hb)); clear HLI; have HLI := q9; clear q9)); have HS2 := Lib.hid (Row3.of_cop hcop HLL.out); clear hcop hb) | (at_builtin; refine list_pushLL rfl (.tmp 78) (.tmp 84) rfl (w.heap.size + 1) _ tk rfl (HC2.out.own.ext (by repeat first | exact xe0 _ | assumption | refine xea ?_ _ | refine xed ?_ | refine xet ?_ (by assumption))) w1.heap.size ⟨LA, lc, tk2⟩ rfl (by simp [S3.val]) (by have := HTL.out; omega) (by have := HB.out.lt; simp; omega) ?_; intro v' w' ho hg; have HST := Lib.hid (HSTP.out _ _ _ _ _ _ HC2.out HS2.out HB.out HX.out (by repeat first | exact xe0 _ | assumption | refine xea ?_ _ | refine xed ?_ | refine xet ?_ (by assumption)) hg ho); clear ho hg))
              go_roundw
              case rel => exact ⟨i + 1, _, by omega, by go_num, Lib.hid HST.out.1, Lib.hid HST.out.2.1, Lib.hid HST.out.2.2⟩
              case measure => simp [intOf] <;> omega
      case neg =>
        obtain rfl : i = xs.length := by omega
        have ilt : ¬ (xs.length : Int) < (xs.length : Int) := by omega
        have hsame := HC.out.same
        have hlen := HC.out.len
        have htk : tk.length ≤ 1000000 := by omega
        obtain ⟨A9, c9, rfl, hr3⟩ := HC.out.r3 (by omega)
        have HR3 := Lib.hid hr3
        have cPC := fun A c B d W h k => pCol_any ⟨name, body, ss⟩ A c B d tk W h k
        have cER := fun W h => rErr_any ⟨name, body, ss⟩ A c W h
        by_cases hz : (chk ⟨name, body, ss⟩).2 = 0
        case pos =>
          have hE : pColE ⟨name, body, ss⟩ tk = colE ss.length xs := by unfold pColE; rw [if_neg (by simpa using hz)]; exact colE_same hlen hsame _
          have hL : pColL ⟨name, body, ss⟩ tk = colL ss xs := by unfold pColL; rw [if_neg (by simpa using hz)]; exact colL_same hlen hsame _
          have cRC := fun W h k => rCol_any ⟨name, body, ss⟩ A c B d xs W h k hz
          simp only [hE, hL, FT.val] at cPC
          simp only [hz, FT.val] at cER
          simp only [FT.val] at cRC
          clear hE hL hz hsame hlen hr3 HC hlt hi htk
          generalize colE ss.length xs = E at *
          generalize colL ss xs = L at *
          have CPC := Lib.hid cPC; have CER := Lib.hid cER; have CRC := Lib.hid cRC
          clear cPC cER cRC
          go_wp2_with (first | (go_at_call 24; refine Calls.mono (CPF.out _ (HF.out.ext (HX.out.trans (by repeat first | exact xe0 _ | assumption | refine xea ?_ _ | refine xed ?_ | refine xet ?_ (by assumption))))) ?_; rintro e w1 ⟨FA, fc, rfl, hfa, hb⟩; have HR8 := Lib.hid (HR3.out.ext (Ext.trans (by repeat first | exact xe0 _ | assumption | refine xea ?_ _ | refine xed ?_ | refine xet ?_ (by assumption)) hb)); clear HR3; have HB9 := Lib.hid (HB.out.ext (Ext.trans (by repeat first | exact xe0 _ | assumption | refine xea ?_ _ | refine xed ?_ | refine xet ?_ (by assumption)) hb)); have HX9 := Lib.hid (HX.out.trans (Ext.trans (by repeat first | exact xe0 _ | assumption | refine xea ?_ _ | refine xed ?_ | refine xet ?_ (by assumption)) hb)); clear k0 k1 k2 kl HB HX; have HB := HB9; have HX := HX9; clear HB9 HX9; obtain ⟨k0, k1, k2, kl⟩ := HB.out.c3; (try (have q9 := Lib.hid (HLI.out.ext (Ext.trans (by repeat first | exact xe0 _ | assumption | refine xea ?_ _ | refine xed ?_ | refine xet ?_ (by assumption)) hb)); clear HLI; have HLI := q9; clear q9)); have HCF := Lib.hid hfa; clear hfa hb) | (go_at_call 36; refine Calls.mono (CPC.out _ _ _ _ _ (HCF.out.ext (by repeat first | exact xe0 _ | assumption | refine xea ?_ _ | refine xed ?_ | refine xet ?_ (by assumption))) (HR8.out.ext (by repeat first | exact xe0 _ | assumption | refine xea ?_ _ | refine xed ?_ | refine xet ?_ (by assumption)))) ?_; rintro e w1 ⟨LA, lc, rfl, hri, hb⟩; have HB9 := Lib.hid (HB.out.ext (Ext.trans (by repeat first | exact xe0 _ | assumption | refine xea ?_ _ | refine xed ?_ | refine xet ?_ (by assumption)) hb)); have HX9 := Lib.hid (HX.out.trans (Ext.trans (by repeat first | exact xe0 _ | assumption | refine xea ?_ _ | refine xed ?_ | refine xet ?_ (by assumption)) hb)); clear k0 k1 k2 kl HB HX; have HB := HB9; have HX := HX9; clear HB9 HX9; obtain ⟨k0, k1, k2, kl⟩ := HB.out.c3; (try (have q9 := Lib.hid (HLI.out.ext (Ext.trans (by repeat first | exact xe0 _ | assumption | refine xea ?_ _ | refine xed ?_ | refine xet ?_ (by assumption)) hb)); clear HLI; have HLI := q9; clear q9)); have HLI := Lib.hid hri; clear hri hb) | (go_at_call 28; refine Calls.mono (CER.out _ (HF.out.ext (HX.out.trans (by repeat first | exact xe0 _ | assumption | refine xea ?_ _ | refine xed ?_ | refine xet ?_ (by assumption))))) ?_; rintro e w1 ⟨rfl, hb⟩; have HB9 := Lib.hid (HB.out.ext (Ext.trans (by repeat first | exact xe0 _ | assumption | refine xea ?_ _ | refine xed ?_ | refine xet ?_ (by assumption)) hb)); have HX9 := Lib.hid (HX.out.trans (Ext.trans (by repeat first | exact xe0 _ | assumption | refine xea ?_ _ | refine xed ?_ | refine xet ?_ (by assumption)) hb)); clear k0 k1 k2 kl HB HX; have HB := HB9; have HX := HX9; clear HB9 HX9; obtain ⟨k0, k1, k2, kl⟩ := HB.out.c3; (try (have q9 := Lib.hid (HLI.out.ext (Ext.trans (by repeat first | exact xe0 _ | assumption | refine xea ?_ _ | refine xed ?_ | refine xet ?_ (by assumption)) hb)); clear HLI; have HLI := q9; clear q9)); clear hb) | (go_at_call 37; refine Calls.mono (CRC.out _ (HF.out.ext (HX.out.trans (by repeat first | exact xe0 _ | assumption | refine xea ?_ _ | refine xed ?_ | refine xet ?_ (by assumption)))) (HR.out.ext (HX.out.trans (by repeat first | exact xe0 _ | assumption | refine xea ?_ _ | refine xed ?_ | refine xet ?_ (by assumption))))) ?_; rintro e w1 ⟨RA, rc, rfl, hri, hb⟩; have HB9 := Lib.hid (HB.out.ext (Ext.trans (by repeat first | exact xe0 _ | assumption | refine xea ?_ _ | refine xed ?_ | refine xet ?_ (by assumption)) hb)); have HX9 := Lib.hid (HX.out.trans (Ext.trans (by repeat first | exact xe0 _ | assumption | refine xea ?_ _ | refine xed ?_ | refine xet ?_ (by assumption)) hb)); clear k0 k1 k2 kl HB HX; have HB := HB9; have HX := HX9; clear HB9 HX9; obtain ⟨k0, k1, k2, kl⟩ := HB.out.c3; (try (have q9 := Lib.hid (HLI.out.ext (Ext.trans (by repeat first | exact xe0 _ | assumption | refine xea ?_ _ | refine xed ?_ | refine xet ?_ (by assumption)) hb)); clear HLI; have HLI := q9; clear q9)); have HRI := Lib.hid hri; clear hri hb) | (go_at_call 18; refine Calls.mono (ints_same _ _ _ _ L _ (HLI.out.ext (by repeat first | exact xe0 _ | assumption | refine xea ?_ _ | refine xed ?_ | refine xet ?_ (by assumption))) (HRI.out.ext (by repeat first | exact xe0 _ | assumption | refine xea ?_ _ | refine xed ?_ | refine xet ?_ (by assumption)))) ?_; rintro e w1 ⟨rfl, hb⟩; have HB9 := Lib.hid (HB.out.ext (Ext.trans (by repeat first | exact xe0 _ | assumption | refine xea ?_ _ | refine xed ?_ | refine xet ?_ (by assumption)) hb)); have HX9 := Lib.hid (HX.out.trans (Ext.trans (by repeat first | exact xe0 _ | assumption | refine xea ?_ _ | refine xed ?_ | refine xet ?_ (by assumption)) hb)); clear k0 k1 k2 kl HB HX; have HB := HB9; have HX := HX9; clear HB9 HX9; obtain ⟨k0, k1, k2, kl⟩ := HB.out.c3; (try (have q9 := Lib.hid (HLI.out.ext (Ext.trans (by repeat first | exact xe0 _ | assumption | refine xea ?_ _ | refine xed ?_ | refine xet ?_ (by assumption)) hb)); clear HLI; have HLI := q9; clear q9)); clear hb))
          go_ret
          exact Ret.mk' (by simp) (HX.out.trans (by repeat first | exact xe0 _ | assumption | refine xea ?_ _ | refine xed ?_ | refine xet ?_ (by assumption)))
        case neg =>
          obtain ⟨L, hL0⟩ : ∃ L, L = ([] : List Int) := ⟨_, rfl⟩
          have hE : pColE ⟨name, body, ss⟩ tk = (chk ⟨name, body, ss⟩).2 := by unfold pColE; rw [if_pos hz]
          have hL : pColL ⟨name, body, ss⟩ tk = L := by unfold pColL; rw [if_pos hz, hL0]
          have e1 : ((chk ⟨name, body, ss⟩).2 == 0) = false := by simpa using hz
          have HL0 := Lib.hid hL0
          simp only [hE, hL, FT.val] at cPC
          simp only [FT.val] at cER
          clear hE hL hz hsame hlen hr3 HC hlt hi htk hL0
          generalize (chk ⟨name, body, ss⟩).2 = z at *
          have CPC := Lib.hid cPC; have CER := Lib.hid cER
          clear cPC cER
          go_wp2_with (first | (go_at_call 24; refine Calls.mono (CPF.out _ (HF.out.ext (HX.out.trans (by repeat first | exact xe0 _ | assumption | refine xea ?_ _ | refine xed ?_ | refine xet ?_ (by assumption))))) ?_; rintro e w1 ⟨FA, fc, rfl, hfa, hb⟩; have HR8 := Lib.hid (HR3.out.ext (Ext.trans (by repeat first | exact xe0 _ | assumption | refine xea ?_ _ | refine xed ?_ | refine xet ?_ (by assumption)) hb)); clear HR3; have HB9 := Lib.hid (HB.out.ext (Ext.trans (by repeat first | exact xe0 _ | assumption | refine xea ?_ _ | refine xed ?_ | refine xet ?_ (by assumption)) hb)); have HX9 := Lib.hid (HX.out.trans (Ext.trans (by repeat first | exact xe0 _ | assumption | refine xea ?_ _ | refine xed ?_ | refine xet ?_ (by assumption)) hb)); clear k0 k1 k2 kl HB HX; have HB := HB9; have HX := HX9; clear HB9 HX9; obtain ⟨k0, k1, k2, kl⟩ := HB.out.c3; (try (have q9 := Lib.hid (HLI.out.ext (Ext.trans (by repeat first | exact xe0 _ | assumption | refine xea ?_ _ | refine xed ?_ | refine xet ?_ (by assumption)) hb)); clear HLI; have HLI := q9; clear q9)); have HCF := Lib.hid hfa; clear hfa hb) | (go_at_call 36; refine Calls.mono (CPC.out _ _ _ _ _ (HCF.out.ext (by repeat first | exact xe0 _ | assumption | refine xea ?_ _ | refine xed ?_ | refine xet ?_ (by assumption))) (HR8.out.ext (by repeat first | exact xe0 _ | assumption | refine xea ?_ _ | refine xed ?_ | refine xet ?_ (by assumption)))) ?_; rintro e w1 ⟨LA, lc, rfl, hri, hb⟩; have HB9 := Lib.hid (HB.out.ext (Ext.trans (by repeat first | exact xe0 _ | assumption | refine xea ?_ _ | refine xed ?_ | refine xet ?_ (by assumption)) hb)); have HX9 := Lib.hid (HX.out.trans (Ext.trans (by repeat first | exact xe0 _ | assumption | refine xea ?_ _ | refine xed ?_ | refine xet ?_ (by assumption)) hb)); clear k0 k1 k2 kl HB HX; have HB := HB9; have HX := HX9; clear HB9 HX9; obtain ⟨k0, k1, k2, kl⟩ := HB.out.c3; (try (have q9 := Lib.hid (HLI.out.ext (Ext.trans (by repeat first | exact xe0 _ | assumption | refine xea ?_ _ | refine xed ?_ | refine xet ?_ (by assumption)) hb)); clear HLI; have HLI := q9; clear q9)); have HLI := Lib.hid hri; clear hri hb) | (go_at_call 28; refine Calls.mono (CER.out _ (HF.out.ext (HX.out.trans (by repeat first | exact xe0 _ | assumption | refine xea ?_ _ | refine xed ?_ | refine xet ?_ (by assumption))))) ?_; rintro e w1 ⟨rfl, hb⟩; have HB9 := Lib.hid (HB.out.ext (Ext.trans (by repeat first | exact xe0 _ | assumption | refine xea ?_ _ | refine xed ?_ | refine xet ?_ (by assumption)) hb)); have HX9 := Lib.hid (HX.out.trans (Ext.trans (by repeat first | exact xe0 _ | assumption | refine xea ?_ _ | refine xed ?_ | refine xet ?_ (by assumption)) hb)); clear k0 k1 k2 kl HB HX; have HB := HB9; have HX := HX9; clear HB9 HX9; obtain ⟨k0, k1, k2, kl⟩ := HB.out.c3; (try (have q9 := Lib.hid (HLI.out.ext (Ext.trans (by repeat first | exact xe0 _ | assumption | refine xea ?_ _ | refine xed ?_ | refine xet ?_ (by assumption)) hb)); clear HLI; have HLI := q9; clear q9)); clear hb) | (go_at_call 18; refine Calls.mono (ints_nil _ _ L _ (HLI.out.ext (by repeat first | exact xe0 _ | assumption | refine xea ?_ _ | refine xed ?_ | refine xet ?_ (by assumption))) HL0.out) ?_; rintro e w1 ⟨rfl, hb⟩; have HB9 := Lib.hid (HB.out.ext (Ext.trans (by repeat first | exact xe0 _ | assumption | refine xea ?_ _ | refine xed ?_ | refine xet ?_ (by assumption)) hb)); have HX9 := Lib.hid (HX.out.trans (Ext.trans (by repeat first | exact xe0 _ | assumption | refine xea ?_ _ | refine xed ?_ | refine xet ?_ (by assumption)) hb)); clear k0 k1 k2 kl HB HX; have HB := HB9; have HX := HX9; clear HB9 HX9; obtain ⟨k0, k1, k2, kl⟩ := HB.out.c3; (try (have q9 := Lib.hid (HLI.out.ext (Ext.trans (by repeat first | exact xe0 _ | assumption | refine xea ?_ _ | refine xed ?_ | refine xet ?_ (by assumption)) hb)); clear HLI; have HLI := q9; clear q9)); clear hb))
          go_ret
          exact Ret.mk' (by simp) (HX.out.trans (by repeat first | exact xe0 _ | assumption | refine xea ?_ _ | refine xed ?_ | refine xet ?_ (by assumption)))
  -- END B
end Go.Proofs.YtpkmapngdkkglaaGreatDoor.columns
