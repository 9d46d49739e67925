/-
  Walk: slices.Repeat of a list that is not empty.
-/
import Derived.Test.YtffafbllgdonlaaGreatDoorGI
import Derived.Test.YtffafbllgdonlaaGreatDoorLeadLaw
namespace Go.Proofs.YtffafbllgdonlaaGreatDoor
open Go.RowKit

def mrw (l : List Int) (n m : Nat) : Array Value := ((l.take m).map (fun z => Value.int .i64 z) ++ List.replicate (n - m) (Value.int .i64 0)).toArray
theorem mrw_zero (l : List Int) (n : Nat) : mrw l n 0 = Array.replicate n (Value.int .i64 0) := by unfold mrw; simp
theorem mrw_size {l : List Int} {n m : Nat} (hl : l.length = n) (h : m ≤ n) : (mrw l n m).size = n := by unfold mrw; simp; omega
theorem mrw_cell {l : List Int} {n m j : Nat} (hl : l.length = n) (hm : m ≤ n) (hj : j < m) : (mrw l n m)[j]? = some (.int .i64 (l.getD j 0)) := by
  unfold mrw
  rw [List.getElem?_toArray, List.getElem?_append_left (by simp; omega), List.getElem?_map, List.getElem?_take_of_lt hj, List.getElem?_eq_getElem (by omega), List.getD_eq_getElem?_getD, List.getElem?_eq_getElem (by omega)]; rfl
theorem mrw_next {l : List Int} {n m k : Nat} (hl : l.length = n) (hm : m + k ≤ n) : ((mrw l n m).toList.take m ++ ((l.drop m).take k).map (fun z => Value.int .i64 z) ++ (mrw l n m).toList.drop (m + k)).toArray = mrw l n (m + k) := by
  unfold mrw
  simp only
  have h1 : ((l.take m).map (fun z => Value.int .i64 z)).length = m := by simp; omega
  rw [List.take_append_of_le_length (by omega), List.take_of_length_le (by omega), List.drop_append, h1]
  have h2 : ((l.take m).map (fun z => Value.int .i64 z)).drop (m + k) = [] := List.drop_eq_nil_of_le (by omega)
  rw [h2, List.nil_append, List.drop_replicate, show m + k - m = k by omega, show n - m - k = n - (m + k) by omega, List.take_add, List.map_append]
def RetL2 (l : List Int) (n : Nat) (w : World) (e : Ending) (w' : World) : Prop := ∃ A, e = .returned (.slice A n n) ∧ RI w' A n l ∧ Ext w w'
theorem copy_first2 (b off c0 n s k L : Nat) (l dots : List Int) (W : World) (hl : l.length = n) (hb : Blk W s 3 (mrw l n 0)) (hx : RI W (some ⟨b, off, none⟩) L dots) (hL : 1 ≤ L) (hk : k = min L n) (ht : ∀ j, j < k → l.getD j 0 = dots.getD j 0) (ty : TypeId) :
    (Builtin.copy_ #[25, 25] ty #[.slice (some ⟨s, 0, none⟩) n n, .slice (some ⟨b, off, none⟩) L c0]).run Tryz.prog W = .ok (goInt k) (W.setRow s (mrw l n k)) := by
  have hlt : (((l.drop 0).take k).map (fun z => Value.int .i64 z)).length = k := by simp; omega
  have := run_copy_row Tryz.prog W 25 25 ty 3 s 0 n n ⟨b, off, none⟩ L c0 (mrw l n 0) 3 (((l.drop 0).take k).map (fun z => Value.int .i64 z)) (by kernel_rfl) (by kernel_rfl) hb (by rw [hlt]; exact hk)
    (fun j v hj => by
      have hjk : j < k := by
        rcases Nat.lt_or_ge j k with h | h
        · exact h
        · rw [List.getElem?_eq_none (by rw [hlt]; exact h)] at hj; cases hj
      have e : (⟨b, off, none⟩ : Addr).add j = ⟨b, off + j, none⟩ := by unfold Addr.add; split <;> simp_all
      rw [e]
      obtain ⟨b', off', e2, _, hc⟩ := hx.2.2 (by omega)
      cases e2
      rw [hc j (by omega), ← ht j hjk]
      rw [List.drop_zero, List.getElem?_map, List.getElem?_take_of_lt hjk, List.getElem?_eq_getElem (by omega)] at hj
      rw [List.getD_eq_getElem?_getD, List.getElem?_eq_getElem (by omega)]
      exact hj) (by rw [mrw_size hl (by omega), hlt]; omega) (fun v hv => by obtain ⟨z, _, rfl⟩ := List.mem_map.1 hv; rfl)
  rw [this, hlt]
  have h := mrw_next (l := l) (n := n) (m := 0) (k := k) hl (by omega)
  rw [Nat.zero_add] at h
  rw [← h]
  simp
theorem copy_more2 (n m k s : Nat) (l : List Int) (w : World) (hl : l.length = n) (hb : Blk w s 3 (mrw l n m)) (hk : k = min m (n - m)) (hm : m < n) (hp : ∀ j, j < k → l.getD (m + j) 0 = l.getD j 0) (ty : TypeId) :
    (Builtin.copy_ #[25, 25] ty #[.slice (some ⟨s, m, none⟩) (n - m) (n - m), .slice (some ⟨s, 0, none⟩) m n]).run Tryz.prog w = .ok (goInt k) (w.setRow s (mrw l n (m + k))) := by
  have hlt : (((l.drop m).take k).map (fun z => Value.int .i64 z)).length = k := by simp; omega
  have := run_copy_row Tryz.prog w 25 25 ty 3 s m (n - m) (n - m) ⟨s, 0, none⟩ m n (mrw l n m) 3 (((l.drop m).take k).map (fun z => Value.int .i64 z)) (by kernel_rfl) (by kernel_rfl) hb (by rw [hlt]; exact hk)
    (fun j v hj => by
      have hjk : j < k := by
        rcases Nat.lt_or_ge j k with h | h
        · exact h
        · rw [List.getElem?_eq_none (by rw [hlt]; exact h)] at hj; cases hj
      have e : (⟨s, 0, none⟩ : Addr).add j = ⟨s, j, none⟩ := by unfold Addr.add; split <;> simp_all
      rw [e]
      refine hb.cell j _ ?_
      rw [mrw_cell hl (by omega) (by omega), ← hp j hjk]
      rw [List.getElem?_map, List.getElem?_take_of_lt hjk, List.getElem?_drop, List.getElem?_eq_getElem (by omega)] at hj
      rw [List.getD_eq_getElem?_getD, List.getElem?_eq_getElem (by omega)]
      exact hj) (by rw [mrw_size hl (by omega), hlt]; omega) (fun v hv => by obtain ⟨z, _, rfl⟩ := List.mem_map.1 hv; rfl)
  rw [this, hlt, mrw_next hl (by omega)]
theorem mrw_ri {W : World} {s n : Nat} {l : List Int} (hl : l.length = n) (hn : n ≤ 1000000) (hb : Blk W s 3 (mrw l n n)) : RI W (some ⟨s, 0, none⟩) n l := by
  refine ⟨hl, by omega, fun h0 => ⟨s, 0, rfl, ?_, fun k hk => ?_⟩⟩
  · exact cell_lt (hb.cell 0 _ (mrw_cell hl (Nat.le_refl _) h0))
  · have := hb.cell k _ (mrw_cell hl (Nat.le_refl _) hk)
    rw [Nat.zero_add]; exact this
set_option maxRecDepth 100000 in
set_option maxHeartbeats 4000000 in
theorem repeat_any (X : Option Addr) (c0 L K : Nat) (dots : List Int) (w : World) (hx : RI w X L dots) (hL1 : 1 ≤ L) (hL2 : L ≤ 100) (hK : K ≤ 1000) :
    Calls Tryz.prog 54 #[.slice X L c0, .int .i64 K] w (RetL2 (dotsTo dots K) (K * L) w) := by
  have hn0 : L * K ≤ 100 * 1000 := Nat.mul_le_mul hL2 hK
  have cM := Tryz.bits_Mul L K (by omega) (by omega)
  rw [Nat.div_eq_of_lt (by omega), Nat.mod_eq_of_lt (by omega)] at cM
  have hln : (dotsTo dots K).length = K * L := by rw [dotsTo_len, hx.len]
  have hdv : L ∣ K * L := Nat.dvd_mul_left L K
  have hK0 : K * L = 0 ∨ L ≤ K * L := by
    rcases Nat.eq_zero_or_pos K with h | h
    · left; rw [h, Nat.zero_mul]
    · right; exact Nat.le_mul_of_pos_left _ h
  have hat : ∀ i, i < K * L → (dotsTo dots K).getD i 0 = dots.getD (i % L) 0 := fun i hi => by have := dotsTo_at dots K i (by rw [hx.len]; exact hi); rw [hx.len] at this; exact this
  rw [Nat.mul_comm L K] at hn0 cM
  generalize dotsTo dots K = l at *
  generalize K * L = n at *
  have CM := Lib.hid cM; clear cM
  have hk0 : ¬ (K : Int) < 0 := by omega
  have h1 : ¬ (9223372036854775807 : Int) < (n : Int) := by omega
  obtain ⟨b, off, rfl, hbw, _⟩ := hx.2.2 (by omega)
  have HRX := Lib.hid hx; clear hx
  obtain ⟨k, hk⟩ : ∃ k, k = min L n := ⟨_, rfl⟩
  have HT : Hid (∀ j, j < k → l.getD j 0 = dots.getD j 0) := Lib.hid fun j hj => by rw [hat j (by omega), Nat.mod_eq_of_lt (by omega)]
  have HP : Hid (∀ m, L ∣ m → ∀ j, m + j < n → l.getD (m + j) 0 = l.getD j 0) := Lib.hid fun m hm j hj => by
    rw [hat _ hj, hat j (by omega), Nat.add_mod, Nat.mod_eq_zero_of_dvd hm, Nat.zero_add, Nat.mod_mod]
  have HDV := Lib.hid hdv
  have HKD : Hid (L ∣ k ∧ (0 < n → 0 < k) ∧ k ≤ n) := Lib.hid (by
    rcases hK0 with h | h
    · obtain rfl : k = 0 := by omega
      exact ⟨Nat.dvd_zero _, fun h9 => by omega, Nat.zero_le _⟩
    · obtain rfl : k = L := by omega
      exact ⟨Nat.dvd_refl _, fun _ => hL1, h⟩)
  have HKM := Lib.hid hk
  clear hat hdv hk
  go_enter Tryz.func54, Tryz.ntmps54
  go_wp2_with (first | (go_at_call 112; refine Calls.mono (CM.out _) ?_; rintro e w1 ⟨rfl, rfl⟩) | (at_make; go_loud (refine list_makeI rfl (.tmp 29) (.tmp 29) rfl n rfl rfl (by omega) ?_; intro W2 hS hx hlt; have hb0 := zeros_blk hS.own; rw [← mrw_zero l n] at hb0; have hcp := copy_first2 b off c0 n _ k L l dots W2 hln hb0 (HRX.out.ext hx) hL1 HKM.out HT.out; have HB := Lib.hid (hb0.row (mrw l n k)); have HX := Lib.hid (hx.row (Nat.le_refl _) (mrw l n k)); clear hS hx hb0)))
  go_loopw [8] (fun v wr => ∃ m : Nat, m ≤ n ∧ (0 < n → 0 < m) ∧ Hid (L ∣ m) ∧ v = .int .i64 (m : Int) ∧ Hid (Blk wr w1.heap.size 3 (mrw l n m)) ∧ Hid (Ext w1 wr)) (fun v _ => n - (intOf v).toNat)
  case atStart => exact ⟨k, HKD.out.2.2, HKD.out.2.1, Lib.hid HKD.out.1, rfl, HB, HX⟩
  case round =>
    obtain ⟨m, hm2, hm1, HDM, rfl, HB1, HX1⟩ := hrel
    by_cases hlt : m < n
    case neg =>
      obtain rfl : m = n := by omega
      clear hcp
      go_wp2
      go_ret
      exact ⟨_, rfl, mrw_ri hln (by omega) HB1.out, HX1.out⟩
    case pos =>
      have hm3 := hm1 (by omega)
      clear hcp hm1
      obtain ⟨q, hq⟩ : ∃ q, q = min m (n - m) := ⟨_, rfl⟩
      have hcm := copy_more2 n m q w1.heap.size l wr.drew hln HB1.out.drew hq hlt (fun j hj => HP.out m HDM.out j (by omega))
      have HB2 := Lib.hid (HB1.out.drew.row (mrw l n (m + q)))
      have HX2 := Lib.hid (HX1.out.drew.row (Nat.le_refl _) (mrw l n (m + q)))
      have h3 : ((n : Int) - (m : Int)).toNat = n - m := by omega
      have hk1 : 1 ≤ q ∧ m + q ≤ n := by omega
      have hl : (m : Int) < (n : Int) := by omega
      have HDQ : Hid (L ∣ m + q) := Lib.hid (by
        rcases Nat.lt_or_ge m (n - m) with h | h
        · obtain rfl : q = m := by omega
          exact Nat.dvd_add HDM.out HDM.out
        · obtain h9 : m + q = n := by omega
          rw [h9]; exact HDV.out)
      clear hq
      have h4 : IntKind.i64.wrap ((m : Int) + (q : Int)) = ((m + q : Nat) : Int) := by rw [IntWalk.i64_in _ (by omega)]; omega
      have h5 : ¬ n = m := by omega
      go_wp2
      go_region
      go_wp2
      go_roundw
      case rel => exact ⟨m + q, by omega, by omega, HDQ, by first | rw [h4] | rfl, HB2, HX2⟩
      case measure => (try rw [h4]); show n - ((m + q : Nat) : Int).toNat < n - (m : Int).toNat; omega
end Go.Proofs.YtffafbllgdonlaaGreatDoor
