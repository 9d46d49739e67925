/-
  Walks: chapter 5: the reference's decimals and folios.
-/
import Derived.Test.YtffafbllgdonlaaGreatDoorGD
import Derived.Test.YtffafbllgdonlaaGreatDoorGE
namespace Go.Proofs.YtffafbllgdonlaaGreatDoor
open Go.RowKit

theorem decDigits_short : ∀ u : Nat, (Lib.decDigits u).length ≤ u + 1 := fun u => by
  induction u using Nat.strongRecOn with
  | ind u ih =>
    by_cases h : u < 10
    · rw [dc_lt h]; simp
    · rw [dc_ge (by omega), List.length_append]
      have := ih (u / 10) (by omega)
      simp; omega
theorem byte_app (m : Nat) (l : List UInt8) : (⟨#[48 + UInt8.ofNat (m % 10)]⟩ : ByteArray) ++ ⟨l.toArray⟩ = ⟨(UInt8.ofNat (48 + m % 10) :: l).toArray⟩ := by
  apply bytes_ext
  simp [ByteArray.data_append]
theorem bytes_join (a b : List UInt8) : (⟨a.toArray⟩ : ByteArray) ++ ⟨b.toArray⟩ = ⟨(a ++ b).toArray⟩ := by
  apply bytes_ext
  simp [ByteArray.data_append]
theorem byte_back (w : World) (m : Nat) (c : Nat) : (convert 121 9 (.slice (some ⟨w.heap.size, 0, none⟩) 1 c)).run Tryz.prog (w.alloc (.cells #[.int .u8 (48 + (m : Int) % 10)] 5)) = .ok (.string ⟨#[UInt8.ofNat (48 + m % 10)]⟩) (w.alloc (.cells #[.int .u8 (48 + (m : Int) % 10)] 5)) :=
  run_convert_bytes_back _ 121 9 5 ⟨w.heap.size, 0, none⟩ c [UInt8.ofNat (48 + m % 10)] Tryz.underlying121 Tryz.underlying5 Tryz.underlying9 fun j hj => by
    obtain rfl : j = 0 := by simpa using hj
    have h9 : (UInt8.ofNat (48 + m % 10)).toNat = 48 + m % 10 := by rw [UInt8.toNat_ofNat']; omega
    show (w.alloc _).cell? ⟨w.heap.size, 0, none⟩ = some (.int .u8 ((UInt8.ofNat (48 + m % 10)).toNat : Int))
    rw [h9, (Blk.new w 5 _).cell 0 _ rfl]
    simp
set_option maxRecDepth 100000 in
set_option maxHeartbeats 2000000 in
theorem decimal_any (n : Nat) (w : World) (h : n ≤ 1000000000000) : Calls Tryz.prog 75 #[.int .i64 (n : Int)] w (Ret (.string ⟨(Lib.itoa (n : Int)).toArray⟩) w) := by
  by_cases h0 : n = 0
  case pos =>
    subst h0
    have HV : Hid ((Lib.itoa ((0 : Nat) : Int)) = [48]) := Lib.hid (by rw [itoa_of_nat, dc_lt (by decide)]; rfl)
    generalize Lib.itoa ((0 : Nat) : Int) = R at *
    go_enter Tryz.func75, Tryz.ntmps75
    go_wp2
    go_ret
    exact Ret.mk' (by rw [HV.out]; rfl) (by repeat (first | exact Ext.refl _ | assumption | refine Ext.alloc ?_ _ | refine Ext.drew ?_ | refine Ext.drewN ?_ _ | (refine Ext.setCell ?_ (by simp <;> omega) _) | refine Ext.trans ?_ (by assumption)))
  case neg =>
  have HR := Lib.hid (decR_pos h0)
  have hn0 : ((n : Int) == 0) = false := by simpa using h0
  have hn1 : ¬ (n : Int) < 0 := by omega
  have hlR : (Lib.itoa (n : Int)).length ≤ 1000000000001 := by rw [itoa_of_nat]; have := decDigits_short n; omega
  have HLR := Lib.hid hlR; clear hlR
  generalize Lib.itoa (n : Int) = R at *
  go_enter Tryz.func75, Tryz.ntmps75
  go_wp2
  go_loopw [0, 3, 5] (fun x s _ wr => ∃ (m : Nat) (l : List UInt8), x = .int .i64 (m : Int) ∧ m ≤ 1000000000000 ∧ s = .string ⟨l.toArray⟩ ∧ Hid (decR m ++ l = R) ∧ Hid (Ext w wr)) (fun x _ _ _ => (intOf x).toNat)
  case atStart => exact ⟨n, [], rfl, h, rfl, Lib.hid (by rw [HR.out, List.append_nil]), Lib.hid (by repeat (first | exact Ext.refl _ | assumption | refine Ext.alloc ?_ _ | refine Ext.drew ?_ | refine Ext.drewN ?_ _ | (refine Ext.setCell ?_ (by simp <;> omega) _) | refine Ext.trans ?_ (by assumption)))⟩
  case round =>
    obtain ⟨m, l, rfl, hm, rfl, HL, HX⟩ := hrel
    by_cases hm0 : m = 0
    case pos =>
      subst hm0
      have hl := HL.out
      rw [decR_zero, List.nil_append] at hl
      subst hl
      have hl9 := HLR.out
      go_wp2
      go_ret
      exact Ret.mk' (by congr 1) HX.out
    case neg =>
      have hm1 : ((m : Int) != 0) = true := by simpa using hm0
      have HD := Lib.hid (decR_next hm0)
      have CS : Hid (∀ W, Calls Tryz.prog 127 #[.int .i64 ((m % 10 : Nat) : Int)] W (Same (.int .i64 ((m % 10 : Nat) : Int)) W)) := Lib.hid fun W => by
        have := size_any ((m % 10 : Nat) : Int) W (by omega)
        rwa [show max ((m % 10 : Nat) : Int) (-((m % 10 : Nat) : Int)) = ((m % 10 : Nat) : Int) by omega] at this
      have hl9 : l.length ≤ 1000000000001 := by have h1 := HL.out; have h2 := HLR.out; rw [← h1, List.length_append] at h2; omega
      have hcv := byte_back wr m 1
      go_wp2_with (first | (go_at_call 127; refine Calls.mono (CS.out _) ?_; rintro e w2 ⟨rfl, rfl⟩))
      go_roundw
      case rel => exact ⟨m / 10, UInt8.ofNat (48 + m % 10) :: l, by go_num, by omega, congrArg Value.string (byte_app m l), Lib.hid (by rw [← HL.out, HD.out, List.append_assoc]; rfl), Lib.hid (HX.out.trans (by repeat (first | exact Ext.refl _ | assumption | refine Ext.alloc ?_ _ | refine Ext.drew ?_ | refine Ext.drewN ?_ _ | (refine Ext.setCell ?_ (by simp <;> omega) _) | refine Ext.trans ?_ (by assumption))))⟩
      case measure => simp [intOf]; omega
theorem romT_take {k m : Nat} (hk : k < 13) (h : (figs.getD k (0, [])).1 ≤ m) : romT k m = (figs.getD k (0, [])).2 ++ romT k (m - (figs.getD k (0, [])).1) := by
  have hb := (fig_bd k hk).1.1
  rw [romT_next k hk m, romT_next k hk (m - _)]
  generalize (figs.getD k (0, [])).1 = v at *
  have h1 : m / v = (m - v) / v + 1 := by
    have := Nat.div_eq_sub_div (by omega) h
    exact this
  have h2 : m % v = (m - v) % v := Nat.mod_eq_sub_mod h
  rw [h1, h2, repL_front, List.append_assoc]
theorem romT_skip {k m : Nat} (hk : k < 13) (h : m < (figs.getD k (0, [])).1) : romT k m = romT (k + 1) m := by
  rw [romT_next k hk m, Nat.div_eq_of_lt h, Nat.mod_eq_of_lt h]; rfl
def valA : Array Value := #[.int .i64 1000, .int .i64 900, .int .i64 500, .int .i64 400, .int .i64 100, .int .i64 90, .int .i64 50, .int .i64 40, .int .i64 10, .int .i64 9, .int .i64 5, .int .i64 4, .int .i64 1]
def letA : Array Value := #[.string ⟨#[109]⟩, .string ⟨#[99, 109]⟩, .string ⟨#[100]⟩, .string ⟨#[99, 100]⟩, .string ⟨#[99]⟩, .string ⟨#[120, 99]⟩, .string ⟨#[108]⟩, .string ⟨#[120, 108]⟩, .string ⟨#[120]⟩, .string ⟨#[105, 120]⟩, .string ⟨#[118]⟩, .string ⟨#[105, 118]⟩, .string ⟨#[105]⟩]
theorem valA_at (k : Nat) (hk : k < 13) : valA[k]? = some (.int .i64 ((figs.getD k (0, [])).1 : Int)) ∧ letA[k]? = some (.string ⟨(figs.getD k (0, [])).2.toArray⟩) := by
  match k, hk with
  | 0, _ | 1, _ | 2, _ | 3, _ | 4, _ | 5, _ | 6, _ | 7, _ | 8, _ | 9, _ | 10, _ | 11, _ | 12, _ => exact ⟨rfl, rfl⟩
/-- What the reference writes. -/
def rFolL (n : Nat) (rom : Bool) : List UInt8 := if rom = true then romL figs n else Lib.itoa (n : Int)
def parV (l : List UInt8) : Value := .tuple #[.int .i64 (parR l).1, .bool (parR l).2.1, .int .i64 (parR l).2.2]
end Go.Proofs.YtffafbllgdonlaaGreatDoor
