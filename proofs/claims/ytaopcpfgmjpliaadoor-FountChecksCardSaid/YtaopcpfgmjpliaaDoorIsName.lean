/-
  Walk: the program's isName.
-/
import Derived.Test.YtaopcpfgmjpliaaDoorNames
namespace Go.Proofs.YtaopcpfgmjpliaaDoor
open Go.RowKit

theorem toList_nil (s : ByteArray) (h : s.size = 0) : s.toList = [] := by
  rw [Go.ByteArray.toList_eq, ← List.length_eq_zero_iff]; simpa using h
theorem toList_ne (s : ByteArray) (h : 0 < s.size) : ¬ s.toList = [] := by
  rw [Go.ByteArray.toList_eq, ← List.length_eq_zero_iff]
  have : s.data.toList.length = s.size := by simp
  omega
/-- The bytes of a text in a block of their own. -/
def Bytes (w : World) (b : Nat) (s : ByteArray) : Prop := ∀ (j : Nat) (h : j < s.size), w.cell? ⟨b, j, none⟩ = some (.int .u8 (s[j].toNat : Int))
theorem Bytes.made (w : World) (s : ByteArray) (cap : Nat) (T : TypeId) (m : Nat × Nat) : Bytes (w.alloc (.cells (bytesRow s cap) T m)) w.heap.size s := by
  intro j h
  rw [World.cell?_alloc_mark]
  exact bytesRow_at s cap j h

set_option maxHeartbeats 4000000 in
set_option maxRecDepth 100000 in
theorem isName_any (s : ByteArray) (w : World) (hs : s.size ≤ maxLen) :
    Calls Tryd.prog 41 #[.string s] w (Ret (.bool (nameB s)) w) := by
  unfold maxLen at hs
  have hcv := fun W => run_bytes_of_string (P := Tryd.prog) W 9 64 5 s Tryd.underlying9 Tryd.underlying64 Tryd.underlying5
  go_enter Tryd.func41, Tryd.ntmps41
  go_wp2
  clear hcv
  go_loopw [9] (fun i wr => ∃ k : Nat, k ≤ s.size ∧ i = .int .i64 k ∧ nameTo s k = true ∧ Bytes wr w.heap.size s ∧ Ext w wr) (fun i _ => s.size - (intOf i).toNat)
  case atStart => exact ⟨0, Nat.zero_le _, rfl, rfl, Bytes.made _ _ _ _ _, (by repeat (first | exact Ext.refl _ | assumption | refine Ext.alloc ?_ _ | refine Ext.drew ?_ | refine Ext.drewN ?_ _ | (refine Ext.setCell ?_ (by simp <;> omega) _) | refine Ext.trans ?_ (by assumption)))⟩
  case round =>
    obtain ⟨k, hk, rfl, hn, hB, hx⟩ := hrel
    have HN := Lib.hid hn; clear hn
    by_cases hlt : k < s.size
    · have hsc := nameTo_succ s k hlt
      have hbd := nameB_bad s k hlt
      have hcell := hB k hlt
      have b1 : (s[k].toNat : Int) < 256 := by have := s[k].toNat_lt; omega
      have b2 : (0 : Int) ≤ (s[k].toNat : Int) := by omega
      have HS := Lib.hid hsc; clear hsc
      have HB := Lib.hid hbd; clear hbd
      generalize hc : (s[k].toNat : Int) = c at *
      rcases Nat.eq_zero_or_pos k with hk0 | hkp
      · subst hk0
        rcases class_zero c with ⟨h, h'⟩ | ⟨h, h', h1⟩ | ⟨h, h'⟩ | ⟨h, h', h1⟩ | ⟨h, h', h1, h2⟩
        all_goals go_wp2
        all_goals
          first
            | (go_roundw
               case rel => exact ⟨1, by omega, by go_num, by rw [HS.out, HN.out, okC_true (by omega)]; rfl, hB, hx⟩
               case measure => simp [intOf]; omega)
            | (go_ret; exact Ret.mk' (by rw [HB.out (okC_false (by omega))]; rfl) hx)
      · have e0 : ((k : Int) == 0) = false := by simp; omega
        rcases class_pos c with ⟨h, h'⟩ | ⟨h, h', h1⟩ | h | ⟨h, h', h1, h2, h3⟩ | ⟨h, h', h1, h3⟩ | ⟨h, h', h1, h2, h3⟩ | ⟨h, h', h1, h2, h4, h3⟩ | ⟨h, h', h1, h2, h4, h5, h3⟩
        all_goals try subst h
        all_goals go_wp2
        all_goals
          first
            | (go_roundw
               case rel => exact ⟨k + 1, by omega, by go_num, by rw [HS.out, HN.out, okC_true (by omega)]; rfl, hB, hx⟩
               case measure => simp [intOf]; omega)
            | (go_ret; exact Ret.mk' (by rw [HB.out (okC_false' hkp h3 (by omega))]; rfl) hx)
    · obtain rfl : k = s.size := by omega
      by_cases h0 : s.size = 0
      · have e1 := toList_nil s h0
        have HC := Lib.hid (nameB_short s (by omega)); clear h0
        go_wp2
        go_ret
        exact Ret.mk' (by rw [HC.out]; rfl) hx
      · have e1 := toList_ne s (by omega)
        by_cases h1 : s.size ≤ 12
        · have HC := Lib.hid (nameB_good s ⟨by omega, h1⟩ HN.out)
          have h2 : (s.size : Int) ≤ 12 := by omega
          go_wp2
          go_ret
          exact Ret.mk' (by rw [HC.out]; simp [e1]) hx
        · have HC := Lib.hid (nameB_short s (by omega))
          have h2 : ¬ (s.size : Int) ≤ 12 := by omega
          go_wp2
          go_ret
          exact Ret.mk' (by rw [HC.out]; simp) hx
end Go.Proofs.YtaopcpfgmjpliaaDoor
