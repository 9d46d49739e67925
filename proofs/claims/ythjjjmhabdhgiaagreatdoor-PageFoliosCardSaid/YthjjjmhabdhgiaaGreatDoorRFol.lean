/-
  Walks: chapter 5: the reference's decimals and folios.
-/
import Derived.Test.YthjjjmhabdhgiaaGreatDoorGD
import Derived.Test.YthjjjmhabdhgiaaGreatDoorGE
namespace Go.Proofs.YthjjjmhabdhgiaaGreatDoor
open Go.RowKit

theorem decDigits_short : ∀ u : Nat, (Lib.decDigits u).length ≤ u + 1 := fun u => by
  induction u using Nat.strongRecOn with
  | ind u ih =>
    by_cases h : u < 10
    · rw [dc_lt h]; simp
    · rw [dc_ge (by omega), List.length_append]
      have := ih (u / 10) (by omega)
      simp; omega
theorem byte_app (m : Nat) (l : List UInt8) : (⟨#[48 + UInt8.ofNat (m % 10)]⟩ : ByteArray) ++ ⟨l.toArray⟩ = ⟨(UInt8.ofNat (48 + m % 10) :: l).toArray⟩ := by
  apply bytes_ext
  simp [ByteArray.data_append]
theorem bytes_join (a b : List UInt8) : (⟨a.toArray⟩ : ByteArray) ++ ⟨b.toArray⟩ = ⟨(a ++ b).toArray⟩ := by
  apply bytes_ext
  simp [ByteArray.data_append]
theorem byte_back (w : World) (m : Nat) (c : Nat) : (convert 110 9 (.slice (some ⟨w.heap.size, 0, none⟩) 1 c)).run Tryz.prog (w.alloc (.cells #[.int .u8 (48 + (m : Int) % 10)] 5)) = .ok (.string ⟨#[UInt8.ofNat (48 + m % 10)]⟩) (w.alloc (.cells #[.int .u8 (48 + (m : Int) % 10)] 5)) :=
  run_convert_bytes_back _ 110 9 5 ⟨w.heap.size, 0, none⟩ c [UInt8.ofNat (48 + m % 10)] Tryz.underlying110 Tryz.underlying5 Tryz.underlying9 fun j hj => by
    obtain rfl : j = 0 := by simpa using hj
    have h9 : (UInt8.ofNat (48 + m % 10)).toNat = 48 + m % 10 := by rw [UInt8.toNat_ofNat']; omega
    show (w.alloc _).cell? ⟨w.heap.size, 0, none⟩ = some (.int .u8 ((UInt8.ofNat (48 + m % 10)).toNat : Int))
    rw [h9, (Blk.new w 5 _).cell 0 _ rfl]
    simp
set_option maxRecDepth 100000 in
set_option maxHeartbeats 2000000 in
theorem decimal_any (n : Nat) (w : World) (h : n ≤ 1000000000000) : Calls Tryz.prog 62 #[.int .i64 (n : Int)] w (Ret (.string ⟨(Lib.itoa (n : Int)).toArray⟩) w) := by
  by_cases h0 : n = 0
  case pos =>
    subst h0
    have HV : Hid ((Lib.itoa ((0 : Nat) : Int)) = [48]) := Lib.hid (by rw [itoa_of_nat, dc_lt (by decide)]; rfl)
    generalize Lib.itoa ((0 : Nat) : Int) = R at *
    go_enter Tryz.func62, Tryz.ntmps62
    go_wp2
    go_ret
    exact Ret.mk' (by rw [HV.out]; rfl) (by repeat (first | exact Ext.refl _ | assumption | refine Ext.alloc ?_ _ | refine Ext.drew ?_ | refine Ext.drewN ?_ _ | (refine Ext.setCell ?_ (by simp <;> omega) _) | refine Ext.trans ?_ (by assumption)))
  case neg =>
  have HR := Lib.hid (decR_pos h0)
  have hn0 : ((n : Int) == 0) = false := by simpa using h0
  have hn1 : ¬ (n : Int) < 0 := by omega
  have hlR : (Lib.itoa (n : Int)).length ≤ 1000000000001 := by rw [itoa_of_nat]; have := decDigits_short n; omega
  have HLR := Lib.hid hlR; clear hlR
  generalize Lib.itoa (n : Int) = R at *
  go_enter Tryz.func62, Tryz.ntmps62
  go_wp2
  go_loopw [0, 3, 5] (fun x s _ wr => ∃ (m : Nat) (l : List UInt8), x = .int .i64 (m : Int) ∧ m ≤ 1000000000000 ∧ s = .string ⟨l.toArray⟩ ∧ Hid (decR m ++ l = R) ∧ Hid (Ext w wr)) (fun x _ _ _ => (intOf x).toNat)
  case atStart => exact ⟨n, [], rfl, h, rfl, Lib.hid (by rw [HR.out, List.append_nil]), Lib.hid (by repeat (first | exact Ext.refl _ | assumption | refine Ext.alloc ?_ _ | refine Ext.drew ?_ | refine Ext.drewN ?_ _ | (refine Ext.setCell ?_ (by simp <;> omega) _) | refine Ext.trans ?_ (by assumption)))⟩
  case round =>
    obtain ⟨m, l, rfl, hm, rfl, HL, HX⟩ := hrel
    by_cases hm0 : m = 0
    case pos =>
      subst hm0
      have hl := HL.out
      rw [decR_zero, List.nil_append] at hl
      subst hl
      have hl9 := HLR.out
      go_wp2
      go_ret
      exact Ret.mk' (by congr 1) HX.out
    case neg =>
      have hm1 : ((m : Int) != 0) = true := by simpa using hm0
      have HD := Lib.hid (decR_next hm0)
      have CS : Hid (∀ W, Calls Tryz.prog 99 #[.int .i64 ((m % 10 : Nat) : Int)] W (Same (.int .i64 ((m % 10 : Nat) : Int)) W)) := Lib.hid fun W => by
        have := size_any ((m % 10 : Nat) : Int) W (by omega)
        rwa [show max ((m % 10 : Nat) : Int) (-((m % 10 : Nat) : Int)) = ((m % 10 : Nat) : Int) by omega] at this
      have hl9 : l.length ≤ 1000000000001 := by have h1 := HL.out; have h2 := HLR.out; rw [← h1, List.length_append] at h2; omega
      have hcv := byte_back wr m 1
      go_wp2_with (first | (go_at_call 99; refine Calls.mono (CS.out _) ?_; rintro e w2 ⟨rfl, rfl⟩))
      go_roundw
      case rel => exact ⟨m / 10, UInt8.ofNat (48 + m % 10) :: l, by go_num, by omega, congrArg Value.string (byte_app m l), Lib.hid (by rw [← HL.out, HD.out, List.append_assoc]; rfl), Lib.hid (HX.out.trans (by repeat (first | exact Ext.refl _ | assumption | refine Ext.alloc ?_ _ | refine Ext.drew ?_ | refine Ext.drewN ?_ _ | (refine Ext.setCell ?_ (by simp <;> omega) _) | refine Ext.trans ?_ (by assumption))))⟩
      case measure => simp [intOf]; omega
theorem romT_take {k m : Nat} (hk : k < 13) (h : (figs.getD k (0, [])).1 ≤ m) : romT k m = (figs.getD k (0, [])).2 ++ romT k (m - (figs.getD k (0, [])).1) := by
  have hb := (fig_bd k hk).1.1
  rw [romT_next k hk m, romT_next k hk (m - _)]
  generalize (figs.getD k (0, [])).1 = v at *
  have h1 : m / v = (m - v) / v + 1 := by
    have := Nat.div_eq_sub_div (by omega) h
    exact this
  have h2 : m % v = (m - v) % v := Nat.mod_eq_sub_mod h
  rw [h1, h2, repL_front, List.append_assoc]
theorem romT_skip {k m : Nat} (hk : k < 13) (h : m < (figs.getD k (0, [])).1) : romT k m = romT (k + 1) m := by
  rw [romT_next k hk m, Nat.div_eq_of_lt h, Nat.mod_eq_of_lt h]; rfl
def valA : Array Value := #[.int .i64 1000, .int .i64 900, .int .i64 500, .int .i64 400, .int .i64 100, .int .i64 90, .int .i64 50, .int .i64 40, .int .i64 10, .int .i64 9, .int .i64 5, .int .i64 4, .int .i64 1]
def letA : Array Value := #[.string ⟨#[109]⟩, .string ⟨#[99, 109]⟩, .string ⟨#[100]⟩, .string ⟨#[99, 100]⟩, .string ⟨#[99]⟩, .string ⟨#[120, 99]⟩, .string ⟨#[108]⟩, .string ⟨#[120, 108]⟩, .string ⟨#[120]⟩, .string ⟨#[105, 120]⟩, .string ⟨#[118]⟩, .string ⟨#[105, 118]⟩, .string ⟨#[105]⟩]
theorem valA_at (k : Nat) (hk : k < 13) : valA[k]? = some (.int .i64 ((figs.getD k (0, [])).1 : Int)) ∧ letA[k]? = some (.string ⟨(figs.getD k (0, [])).2.toArray⟩) := by
  match k, hk with
  | 0, _ | 1, _ | 2, _ | 3, _ | 4, _ | 5, _ | 6, _ | 7, _ | 8, _ | 9, _ | 10, _ | 11, _ | 12, _ => exact ⟨rfl, rfl⟩
/-- What the reference writes. -/
def rFolL (n : Nat) (rom : Bool) : List UInt8 := if rom = true then romL figs n else Lib.itoa (n : Int)
structure RfS (w : World) (b : Nat) (W : World) : Prop where
  ext : Ext w W
  v : Blk W b 115 valA
  l : Blk W (b + 1) 116 letA
theorem RfS.next {w W W' : World} {b : Nat} (h : RfS w b W) (hx : Ext W W') : RfS w b W' := ⟨h.ext.trans hx, h.v.ext hx, h.l.ext hx⟩
set_option maxRecDepth 100000 in
set_option maxHeartbeats 4000000 in
theorem rFolio_any (n : Nat) (rom : Bool) (w : World) (hn : 1 ≤ n ∧ n ≤ 3999) : Calls Tryz.prog 15 #[.int .i64 (n : Int), .bool rom] w (Ret (.string ⟨(rFolL n rom).toArray⟩) w) := by
  cases rom with
  | false =>
    have HV : Hid (rFolL n false = Lib.itoa (n : Int)) := Lib.hid (by unfold rFolL; rw [if_neg (by decide)])
    have CD := Lib.hid (fun W => decimal_any n W (by omega))
    generalize Lib.itoa (n : Int) = R at *
    go_enter Tryz.func15, Tryz.ntmps15
    go_wp2_with (first | (go_at_call 62; refine Calls.mono (CD.out _) ?_; rintro e w1 ⟨rfl, hb⟩))
    go_ret
    exact Ret.mk' (by rw [HV.out]; rfl) hb
  | true =>
    have HV : Hid (rFolL n true = romL figs n) := Lib.hid (by unfold rFolL; rw [if_pos rfl])
    have HZ := Lib.hid (romT_zero n); have HEN := Lib.hid romT_end
    have HLR := Lib.hid (rom_len hn.1 hn.2)
    have HTK := Lib.hid (fun k m => @romT_take k m); have HSK := Lib.hid (fun k m => @romT_skip k m)
    generalize romL figs n = R at *
    generalize romT = rt at *
    go_enter Tryz.func15, Tryz.ntmps15
    go_wp2
    have HS0 : Hid (RfS w w.heap.size ((w.alloc (.cells valA 115)).alloc (.cells letA 116))) := Lib.hid ⟨(by repeat (first | exact Ext.refl _ | assumption | refine Ext.alloc ?_ _ | refine Ext.drew ?_ | refine Ext.drewN ?_ _ | (refine Ext.setCell ?_ (by simp <;> omega) _) | refine Ext.trans ?_ (by assumption))), (Blk.new w _ _).alloc _, Blk.new1 w _ _ _⟩
    go_loopw [0, 7, 8] (fun n s i wr => ∃ (k m : Nat) (l : List UInt8), k ≤ 13 ∧ i = .int .i64 (k : Int) ∧ n = .int .i64 (m : Int) ∧ m ≤ 3999 ∧ s = .string ⟨l.toArray⟩ ∧ Hid (l ++ rt k m = R) ∧ Hid (RfS w w.heap.size wr)) (fun _ _ i _ => 13 - (intOf i).toNat)
    case atStart => exact ⟨0, n, [], by omega, rfl, rfl, by omega, rfl, Lib.hid HZ.out, HS0⟩
    case round =>
      obtain ⟨k, m, l, hk, rfl, rfl, hm, rfl, HL, HS⟩ := hrel
      clear HS0 HZ
      by_cases hlt : k < 13
      case neg =>
        obtain rfl : k = 13 := by omega
        have hl := HL.out
        rw [HEN.out, List.append_nil] at hl
        subst hl
        go_wp2
        go_ret
        exact Ret.mk' (by rw [HV.out]; rfl) HS.out.ext
      case pos =>
        obtain ⟨wa, rfl⟩ : ∃ x, x = wr := ⟨_, rfl⟩
        obtain ⟨⟨hv1, hv2⟩, ht1, ht2⟩ := fig_bd k hlt
        have HA := Lib.hid (valA_at k hlt)
        have HT2 := Lib.hid (fun m h => HTK.out k m hlt h)
        have HK2 := Lib.hid (fun m h => HSK.out k m hlt h)
        generalize (figs.getD k (0, [])).1 = vv at *
        generalize (figs.getD k (0, [])).2 = tt at *
        have hkl : (k : Int) < 13 := by omega
        go_wp2
        go_loopw [0, 7] (fun n s wr => ∃ (m : Nat) (l : List UInt8), n = .int .i64 (m : Int) ∧ m ≤ 3999 ∧ s = .string ⟨l.toArray⟩ ∧ Hid (l ++ rt k m = R) ∧ Hid (RfS w w.heap.size wr)) (fun n _ _ => (intOf n).toNat)
        case atStart => exact ⟨m, l, rfl, hm, rfl, HL, HS⟩
        case round =>
          obtain ⟨m2, l2, rfl, hm2, rfl, HL2, HS2⟩ := hrel
          have q0 := HS2.out.v.cell k _ HA.out.1
          have q1 := HS2.out.l.cell k _ HA.out.2
          have ql := HS2.out.v.lt
          have ql2 := HS2.out.l.lt
          have hl9 : l2.length ≤ 20 := by have h1 := HL2.out; have h2 := HLR.out; rw [← h1, List.length_append] at h2; omega
          by_cases hge : vv ≤ m2
          case neg =>
            have i1 : ¬ (vv : Int) ≤ (m2 : Int) := by omega
            have i2 : (m2 : Int) < (vv : Int) := by omega
            have HL3 : Hid (l2 ++ rt (k + 1) m2 = R) := Lib.hid (by rw [← HK2.out m2 (by omega)]; exact HL2.out)
            clear hm HL HS
            go_wp2
            go_roundw
            case rel => exact ⟨k + 1, m2, l2, by omega, by go_num, rfl, hm2, rfl, HL3, Lib.hid (HS2.out.next (by repeat (first | exact Ext.refl _ | assumption | refine Ext.alloc ?_ _ | refine Ext.drew ?_ | refine Ext.drewN ?_ _ | (refine Ext.setCell ?_ (by simp <;> omega) _) | refine Ext.trans ?_ (by assumption))))⟩
            case measure => simp [intOf]; omega
          case pos =>
            have i1 : (vv : Int) ≤ (m2 : Int) := by omega
            have hw9 : IntKind.i64.wrap ((m2 : Int) - (vv : Int)) = ((m2 - vv : Nat) : Int) := by rw [IntWalk.i64_in _ (by omega)]; omega
            have HL3 : Hid ((l2 ++ tt) ++ rt k (m2 - vv) = R) := Lib.hid (by rw [List.append_assoc, ← HT2.out m2 hge]; exact HL2.out)
            have hsum : ¬ 9223372036854775807 < l2.length + tt.length := by omega
            clear hm HL HS
            go_upto_region 10 with fail
            refine wp_region_steady (Ext _) [?_, ?_, ?_, ?_, ?_, ?_, ?_, ?_, ?_, ?_, ?_, ?_] (by kernel_rfl) (by kernel_rfl) rfl (Ext.refl _).drew ?_ ?_
            rotate_left 12
            · refine StepsT.cons (fun W hW => ?_) ?_
              · have q0 := (HS2.out.next hW).v.cell k _ HA.out.1; have q1 := (HS2.out.next hW).l.cell k _ HA.out.2; have ql := (HS2.out.next hW).v.lt; have ql2 := (HS2.out.next hW).l.lt; first | (refine StepT.off rfl hW ?_; rfl) | (refine StepT.go rfl ?_; go_simp; first | (refine ⟨?_, hW⟩; rfl))
              simp only [Act.put, List.setIfInBounds_toArray, List.set_cons_zero, List.set_cons_succ]
              refine StepsT.cons (fun W hW => ?_) ?_
              · have q0 := (HS2.out.next hW).v.cell k _ HA.out.1; have q1 := (HS2.out.next hW).l.cell k _ HA.out.2; have ql := (HS2.out.next hW).v.lt; have ql2 := (HS2.out.next hW).l.lt; first | (refine StepT.off rfl hW ?_; rfl) | (refine StepT.go rfl ?_; go_simp; first | (refine ⟨?_, hW⟩; rfl))
              simp only [Act.put, List.setIfInBounds_toArray, List.set_cons_zero, List.set_cons_succ]
              refine StepsT.cons (fun W hW => ?_) ?_
              · have q0 := (HS2.out.next hW).v.cell k _ HA.out.1; have q1 := (HS2.out.next hW).l.cell k _ HA.out.2; have ql := (HS2.out.next hW).v.lt; have ql2 := (HS2.out.next hW).l.lt; first | (refine StepT.off rfl hW ?_; rfl) | (refine StepT.go rfl ?_; go_simp; first | (refine ⟨?_, hW⟩; rfl))
              simp only [Act.put, List.setIfInBounds_toArray, List.set_cons_zero, List.set_cons_succ]
              refine StepsT.cons (fun W hW => ?_) ?_
              · have q0 := (HS2.out.next hW).v.cell k _ HA.out.1; have q1 := (HS2.out.next hW).l.cell k _ HA.out.2; have ql := (HS2.out.next hW).v.lt; have ql2 := (HS2.out.next hW).l.lt; first | (refine StepT.off rfl hW ?_; rfl) | (refine StepT.go rfl ?_; go_simp; first | (refine ⟨?_, hW⟩; rfl))
              simp only [Act.put, List.setIfInBounds_toArray, List.set_cons_zero, List.set_cons_succ]
              refine StepsT.cons (fun W hW => ?_) ?_
              · have q0 := (HS2.out.next hW).v.cell k _ HA.out.1; have q1 := (HS2.out.next hW).l.cell k _ HA.out.2; have ql := (HS2.out.next hW).v.lt; have ql2 := (HS2.out.next hW).l.lt; first | (refine StepT.off rfl hW ?_; rfl) | (refine StepT.go rfl ?_; go_simp; first | (refine ⟨?_, hW⟩; rfl))
              simp only [Act.put, List.setIfInBounds_toArray, List.set_cons_zero, List.set_cons_succ]
              refine StepsT.cons (fun W hW => ?_) ?_
              · have q0 := (HS2.out.next hW).v.cell k _ HA.out.1; have q1 := (HS2.out.next hW).l.cell k _ HA.out.2; have ql := (HS2.out.next hW).v.lt; have ql2 := (HS2.out.next hW).l.lt; first | (refine StepT.off rfl hW ?_; rfl) | (refine StepT.go rfl ?_; go_simp; first | (refine ⟨?_, hW⟩; rfl))
              simp only [Act.put, List.setIfInBounds_toArray, List.set_cons_zero, List.set_cons_succ]
              refine StepsT.cons (fun W hW => ?_) ?_
              · have q0 := (HS2.out.next hW).v.cell k _ HA.out.1; have q1 := (HS2.out.next hW).l.cell k _ HA.out.2; have ql := (HS2.out.next hW).v.lt; have ql2 := (HS2.out.next hW).l.lt; first | (refine StepT.off rfl hW ?_; rfl) | (refine StepT.go rfl ?_; go_simp; first | (refine ⟨?_, hW⟩; rfl))
              simp only [Act.put, List.setIfInBounds_toArray, List.set_cons_zero, List.set_cons_succ]
              refine StepsT.cons (fun W hW => ?_) ?_
              · have q0 := (HS2.out.next hW).v.cell k _ HA.out.1; have q1 := (HS2.out.next hW).l.cell k _ HA.out.2; have ql := (HS2.out.next hW).v.lt; have ql2 := (HS2.out.next hW).l.lt; first | (refine StepT.off rfl hW ?_; rfl) | (refine StepT.go rfl ?_; go_simp; first | (refine ⟨?_, hW⟩; rfl))
              simp only [Act.put, List.setIfInBounds_toArray, List.set_cons_zero, List.set_cons_succ]
              refine StepsT.cons (fun W hW => ?_) ?_
              · have q0 := (HS2.out.next hW).v.cell k _ HA.out.1; have q1 := (HS2.out.next hW).l.cell k _ HA.out.2; have ql := (HS2.out.next hW).v.lt; have ql2 := (HS2.out.next hW).l.lt; first | (refine StepT.off rfl hW ?_; rfl) | (refine StepT.go rfl ?_; go_simp; first | (refine ⟨?_, hW⟩; rfl))
              simp only [Act.put, List.setIfInBounds_toArray, List.set_cons_zero, List.set_cons_succ]
              refine StepsT.cons (fun W hW => ?_) ?_
              · have q0 := (HS2.out.next hW).v.cell k _ HA.out.1; have q1 := (HS2.out.next hW).l.cell k _ HA.out.2; have ql := (HS2.out.next hW).v.lt; have ql2 := (HS2.out.next hW).l.lt; first | (refine StepT.off rfl hW ?_; rfl) | (refine StepT.go rfl ?_; go_simp; first | (refine ⟨?_, hW⟩; rfl))
              simp only [Act.put, List.setIfInBounds_toArray, List.set_cons_zero, List.set_cons_succ]
              refine StepsT.cons (fun W hW => ?_) ?_
              · have q0 := (HS2.out.next hW).v.cell k _ HA.out.1; have q1 := (HS2.out.next hW).l.cell k _ HA.out.2; have ql := (HS2.out.next hW).v.lt; have ql2 := (HS2.out.next hW).l.lt; first | (refine StepT.off rfl hW ?_; rfl) | (refine StepT.go rfl ?_; go_simp; first | (refine ⟨?_, hW⟩; rfl))
              simp only [Act.put, List.setIfInBounds_toArray, List.set_cons_zero, List.set_cons_succ]
              refine StepsT.cons (fun W hW => ?_) ?_
              · have q0 := (HS2.out.next hW).v.cell k _ HA.out.1; have q1 := (HS2.out.next hW).l.cell k _ HA.out.2; have ql := (HS2.out.next hW).v.lt; have ql2 := (HS2.out.next hW).l.lt; first | (refine StepT.off rfl hW ?_; rfl) | (refine StepT.go rfl ?_; go_simp; first | (refine ⟨?_, hW⟩; rfl))
              simp only [Act.put, List.setIfInBounds_toArray, List.set_cons_zero]
              trivial
            intro W hW
            simp only [putAll, Act.put, List.setIfInBounds_toArray, List.set_cons_zero, List.set_cons_succ]
            go_roundw
            case rel => exact ⟨_, _, _, _, _, _, _, _, _, _, _, _, _, _, _, _, _, ⟨m2 - vv, l2 ++ tt, by go_num, by omega, congrArg Value.string (bytes_join l2 tt), HL3, Lib.hid (HS2.out.next hW)⟩, rfl⟩
            case measure => simp [intOf]; omega
def parV (l : List UInt8) : Value := .tuple #[.int .i64 (parR l).1, .bool (parR l).2.1, .int .i64 (parR l).2.2]
set_option maxRecDepth 100000 in
set_option maxHeartbeats 4000000 in
theorem rParseFolioL (ll : List UInt8) (w : World) (hs : ll.length ≤ 1000) : Calls Tryz.prog 12 #[.string ⟨ll.toArray⟩] w (Ret (parV ll) w) := by
  have HD : Hid (∀ k : Nat, 1 ≤ k → k ≤ 3999 → Lib.itoa (k : Int) = ll → parV ll = .tuple #[.int .i64 (k : Int), .bool false, .int .i64 0]) := Lib.hid fun k h1 h2 e => by unfold parV; rw [parR_dec h1 h2 e]
  have HR : Hid (∀ k : Nat, 1 ≤ k → k ≤ 3999 → romL figs k = ll → parV ll = .tuple #[.int .i64 (k : Int), .bool true, .int .i64 0]) := Lib.hid fun k h1 h2 e => by unfold parV; rw [parR_rom h1 h2 e]
  have HN : Hid ((∀ m : Nat, 1 ≤ m → m ≤ 3999 → Lib.itoa (m : Int) ≠ ll ∧ ¬ (ll.length ≤ 20 ∧ romL figs m = ll)) → parV ll = .tuple #[.int .i64 0, .bool false, .int .i64 7]) := Lib.hid fun h => by unfold parV; rw [parR_none h]
  have HF0 : Hid (∀ k, rFolL k false = Lib.itoa (k : Int)) := Lib.hid fun k => by unfold rFolL; rw [if_neg (by decide)]
  have HF1 : Hid (∀ k, rFolL k true = romL figs k) := Lib.hid fun k => by unfold rFolL; rw [if_pos rfl]
  generalize parV ll = RV at *
  go_enter Tryz.func12, Tryz.ntmps12
  go_wp2
  go_loopw [5] (fun i wr => ∃ k : Nat, 1 ≤ k ∧ k ≤ 4000 ∧ i = .int .i64 (k : Int) ∧ Hid (∀ m : Nat, 1 ≤ m → m < k → Lib.itoa (m : Int) ≠ ll ∧ ¬ (ll.length ≤ 20 ∧ romL figs m = ll)) ∧ Hid (Ext w wr)) (fun i _ => 4000 - (intOf i).toNat)
  case atStart => exact ⟨1, by omega, by omega, rfl, Lib.hid (fun m h1 h2 => by omega), Lib.hid (Ext.refl _)⟩
  case round =>
    obtain ⟨k, hk1, hk2, rfl, HM, HX⟩ := hrel
    by_cases hlt : k ≤ 3999
    case neg =>
      obtain rfl : k = 4000 := by omega
      have HV := Lib.hid (HN.out fun m h1 h2 => HM.out m h1 (by omega))
      go_wp2
      refine bodyPost_ret (v := .tuple #[.int .i64 0, .bool false, .int .i64 7]) (by simp [results, Tryz.results12, go_sem]) rfl (Ret.mk' HV.out.symm HX.out)
    case pos =>
      have hkl : (k : Int) ≤ 3999 := by omega
      have cF := fun W b => rFolio_any k b W ⟨hk1, hlt⟩
      have f0 := HF0.out k; have f1 := HF1.out k
      have HDk := Lib.hid (HD.out k hk1 hlt); have HRk := Lib.hid (HR.out k hk1 hlt)
      by_cases e0 : rFolL k false = ll
      case pos =>
        have HV := Lib.hid (HDk.out (f0.symm.trans e0))
        have e9 : (ll == ll) = true := by simp
        have cF0 := fun W => cF W false
        rw [e0] at cF0
        have CF := Lib.hid cF0; clear cF0 cF f0 f1 e0 HDk HRk
        go_wp2_with (first | (go_at_call 15; refine Calls.mono (CF.out _) ?_; rintro e w1 ⟨rfl, hb⟩))
        refine bodyPost_ret (v := .tuple #[.int .i64 (k : Int), .bool false, .int .i64 0]) (by simp [results, Tryz.results12, go_sem]) rfl (Ret.mk' HV.out.symm (HX.out.trans hb))
      case neg =>
        have e9 : (rFolL k false == ll) = false := by simpa using e0
        have n0 : Lib.itoa (k : Int) ≠ ll := fun h => e0 (f0.trans h)
        have HN0 := Lib.hid n0; clear n0
        by_cases h20 : ll.length ≤ 20
        case neg =>
          have i1 : ¬ (ll.length : Int) ≤ 20 := by omega
          have HM2 : Hid (∀ m : Nat, 1 ≤ m → m < k + 1 → Lib.itoa (m : Int) ≠ ll ∧ ¬ (ll.length ≤ 20 ∧ romL figs m = ll)) := Lib.hid fun m h1 h2 => by
            by_cases e : m = k
            · subst e; exact ⟨HN0.out, fun h => h20 h.1⟩
            · exact HM.out m h1 (by omega)
          generalize rFolL k = F at *
          have CF := Lib.hid cF; clear cF f0 f1 e0 HDk HRk h20
          go_wp2_with (first | (go_at_call 15; refine Calls.mono (CF.out _ _) ?_; rintro e w1 ⟨rfl, hb⟩))
          go_roundw
          case rel => exact ⟨k + 1, by omega, by omega, by go_num, HM2, Lib.hid (HX.out.trans hb)⟩
          case measure => simp [intOf]; omega
        case pos =>
          have i1 : (ll.length : Int) ≤ 20 := by omega
          by_cases e1 : rFolL k true = ll
          case pos =>
            have HV := Lib.hid (HRk.out (f1.symm.trans e1))
            have e8 : (rFolL k true == ll) = true := by simpa using e1
            generalize rFolL k = F at *
            have CF := Lib.hid cF; clear cF f0 f1 e0 e1 HDk HRk h20
            go_wp2_with (first | (go_at_call 15; refine Calls.mono (CF.out _ _) ?_; rintro e w1 ⟨rfl, hb⟩; (first | (have HX9 := Lib.hid (HX1.out.trans hb); clear hb HX1) | (have HX1 := Lib.hid (HX.out.trans hb); clear hb HX))))
            refine bodyPost_ret (v := .tuple #[.int .i64 (k : Int), .bool true, .int .i64 0]) (by simp [results, Tryz.results12, go_sem]) rfl (Ret.mk' HV.out.symm HX9.out)
          case neg =>
            have e8 : (rFolL k true == ll) = false := by simpa using e1
            have HM2 : Hid (∀ m : Nat, 1 ≤ m → m < k + 1 → Lib.itoa (m : Int) ≠ ll ∧ ¬ (ll.length ≤ 20 ∧ romL figs m = ll)) := Lib.hid fun m h1 h2 => by
              by_cases e : m = k
              · subst e; exact ⟨HN0.out, fun h => e1 (f1.trans h.2)⟩
              · exact HM.out m h1 (by omega)
            generalize rFolL k = F at *
            have CF := Lib.hid cF; clear cF f0 f1 e0 e1 HDk HRk h20
            go_wp2_with (first | (go_at_call 15; refine Calls.mono (CF.out _ _) ?_; rintro e w1 ⟨rfl, hb⟩; (first | (have HX9 := Lib.hid (HX1.out.trans hb); clear hb HX1) | (have HX1 := Lib.hid (HX.out.trans hb); clear hb HX))))
            go_roundw
            case rel => exact ⟨k + 1, by omega, by omega, by go_num, HM2, Lib.hid HX9.out⟩
            case measure => simp [intOf]; omega
theorem rParseFolio_any (s : ByteArray) (w : World) (hs : s.size ≤ 1000) : Calls Tryz.prog 12 #[.string s] w (Ret (parV s.data.toList) w) := by
  have := rParseFolioL s.data.toList w (by rw [← ByteArray.size_data] at hs; simpa using hs)
  have e : (⟨s.data.toList.toArray⟩ : ByteArray) = s := by obtain ⟨⟨a⟩⟩ := s; rfl
  rwa [e] at this
end Go.Proofs.YthjjjmhabdhgiaaGreatDoor
