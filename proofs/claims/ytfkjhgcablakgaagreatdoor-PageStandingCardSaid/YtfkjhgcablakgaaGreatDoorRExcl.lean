/-
  Walk: whether a set excludes itself (the reference's).
-/
import Derived.Test.YtfkjhgcablakgaaGreatDoorRShort
import Derived.Test.YtfkjhgcablakgaaGreatDoorRWith
import Derived.Test.YtfkjhgcablakgaaGreatDoorStandAll
namespace Go.Proofs.YtfkjhgcablakgaaGreatDoor
open Go.RowKit
attribute [local go_sem ↓] Go.wp_at_zero Go.wp_at_succ

theorem firstE_nat {g : Nat → Int} (h : ∀ k, ∃ m : Nat, g k = m) : ∀ n, ∃ m : Nat, firstE g n = m
  | 0 => ⟨0, rfl⟩
  | n + 1 => by
    rw [firstE]
    split
    · exact firstE_nat h n
    · exact h n
theorem shortE_nat (cs : List Int) (ns : List (List Int)) (set : List Int) : ∃ m : Nat, shortE cs ns set = m := firstE_nat (fun k => by
  split
  · exact ⟨k + 1, by omega⟩
  · exact ⟨0, rfl⟩) _
theorem exclE_hit {cs : List Int} {ns : List (List Int)} {set : List Int} {k : Nat} (h0 : ∀ j, j < k → shortE cs ns (set.take j ++ set.drop (j + 1)) = 0) (hk : k < set.length) (hb : shortE cs ns (set.take k ++ set.drop (k + 1)) ≠ 0) : exclE cs ns set = 1 := by
  have h := firstE_hit (g := fun i => if shortE cs ns (set.take i ++ set.drop (i + 1)) ≠ 0 then (1 : Int) else 0) (k := k) (fun j hj => if_neg (fun h => h (h0 j hj))) (by rw [if_pos hb]; decide) hk
  rw [if_pos hb] at h
  exact h
theorem exclE_none {cs : List Int} {ns : List (List Int)} {set : List Int} (h0 : ∀ j, j < set.length → shortE cs ns (set.take j ++ set.drop (j + 1)) = 0) : exclE cs ns set = 0 := firstE_none fun j hj => if_neg (fun h => h (h0 j hj))
set_option maxRecDepth 100000 in
set_option maxHeartbeats 8000000 in
theorem rExcludes_any (s : ST) (X : Option Addr) (cx : Nat) (set : List Int) (w : World) (hs : SR w s) (hx : RI w X set.length set) (hc : set.length ≤ cx) (hr : Right s) (hp : Rise 0 s.ns.length set) :
    Calls Tryz.prog 31 #[s.val, .slice X set.length cx] w (Ret (.bool (exB s.cs s.zs set)) w) := by
  have hle := rise_len hp (by omega)
  have hfew := hr.few
  have cS := fun X cx set W h1 h2 h3 => rShort_any s X cx set W h1 h2 hr h3
  have HSR := Lib.hid hs; have HRX := Lib.hid hx
  have HPS := Lib.hid (fun i => hp.sub (erase_sub set i))
  have HP := Lib.hid hp
  have HE1 : Hid (shortE s.cs s.zs set = 0 → exB s.cs s.zs set = false) := Lib.hid fun h => by unfold exB laB; rw [decide_eq_false (fun h9 => h9 h)]; rfl
  have HE2 : Hid (shortE s.cs s.zs set ≠ 0 → ∀ k, (∀ j, j < k → shortE s.cs s.zs (set.take j ++ set.drop (j + 1)) = 0) → k < set.length → shortE s.cs s.zs (set.take k ++ set.drop (k + 1)) ≠ 0 → exB s.cs s.zs set = false) := Lib.hid fun h k h0 hk hb => by
    unfold exB; rw [exclE_hit h0 hk hb]; simp
  have HE3 : Hid (shortE s.cs s.zs set ≠ 0 → (∀ j, j < set.length → shortE s.cs s.zs (set.take j ++ set.drop (j + 1)) = 0) → exB s.cs s.zs set = true) := Lib.hid fun h h0 => by
    unfold exB laB; rw [exclE_none h0, decide_eq_true h]; rfl
  have HNT := Lib.hid (fun l => shortE_nat s.cs s.zs l)
  clear hs hx hr hp
  generalize exB s.cs s.zs set = E at *
  obtain ⟨sh, hsh⟩ : ∃ sh : List Int → Int, sh = shortE s.cs s.zs := ⟨_, rfl⟩
  rw [← hsh] at HE1 HE2 HE3 HNT
  have cS2 : ∀ X cx set W, SR W s → RI W X set.length set → Rise 0 s.ns.length set → Calls Tryz.prog 26 #[s.val, .slice X set.length cx] W (Ret (.int .i64 (sh set - 1)) W) := by rw [hsh]; exact cS
  clear cS hsh
  obtain ⟨B, d, cs, D, e, ns⟩ := s
  simp only [ST.val] at *
  have CS := Lib.hid (fun W h1 h2 => cS2 X cx set W h1 h2 HP.out)
  have CS2 := Lib.hid (fun X cx i W h1 h2 => cS2 X cx (set.take i ++ set.drop (i + 1)) W h1 h2 (HPS.out i))
  clear cS2
  by_cases h1 : sh set = 0
  case pos =>
    have hE := HE1.out h1
    subst hE
    rw [h1] at CS
    clear HE1 HE2 HE3 HNT CS2 h1
    go_enter Tryz.func31, Tryz.ntmps31
    have HS : Hid (Blk (w.alloc (.cells #[.slice B cs.length d, .slice D ns.length e] 45)) w.heap.size 45 #[.slice B cs.length d, .slice D ns.length e]) := Lib.hid (Blk.new w _ _)
    have HX : Hid (Ext w (w.alloc (.cells #[.slice B cs.length d, .slice D ns.length e] 45))) := Lib.hid (by repeat first | exact yx0 _ | assumption | refine yxa ?_ _ | refine yxd ?_ | refine yxn ?_ _ | refine yxs ?_ (by simp <;> omega) _ | refine yxt ?_ (by assumption))
    obtain ⟨m0, m1, _, _, ml⟩ := HS.out.c2
    go_wp2_with (first | (go_at_call 26; refine Calls.mono (CS.out _ (HSR.out.ext (HX.out.trans (by repeat first | exact yx0 _ | assumption | refine yxa ?_ _ | refine yxd ?_ | refine yxn ?_ _ | refine yxs ?_ (by simp <;> omega) _ | refine yxt ?_ (by assumption)))) (HRX.out.ext (HX.out.trans (by repeat first | exact yx0 _ | assumption | refine yxa ?_ _ | refine yxd ?_ | refine yxn ?_ _ | refine yxs ?_ (by simp <;> omega) _ | refine yxt ?_ (by assumption))))) ?_; rintro e9 w1 ⟨rfl, hb⟩; have HS9 := Lib.hid (HS.out.ext (Ext.trans (by repeat first | exact yx0 _ | assumption | refine yxa ?_ _ | refine yxd ?_ | refine yxn ?_ _ | refine yxs ?_ (by simp <;> omega) _ | refine yxt ?_ (by assumption)) hb)); have HX9 := Lib.hid (HX.out.trans (Ext.trans (by repeat first | exact yx0 _ | assumption | refine yxa ?_ _ | refine yxd ?_ | refine yxn ?_ _ | refine yxs ?_ (by simp <;> omega) _ | refine yxt ?_ (by assumption)) hb)); clear m0 m1 ml HS HX; have HS := HS9; have HX := HX9; clear HS9 HX9; obtain ⟨m0, m1, _, _, ml⟩ := HS.out.c2; clear hb))
    go_ret
    exact Ret.mk' rfl (HX.out.trans (by repeat first | exact yx0 _ | assumption | refine yxa ?_ _ | refine yxd ?_ | refine yxn ?_ _ | refine yxs ?_ (by simp <;> omega) _ | refine yxt ?_ (by assumption)))
  case neg =>
    obtain ⟨m, hm⟩ := HNT.out set
    obtain ⟨n, rfl⟩ : ∃ n, m = n + 1 := ⟨m - 1, by omega⟩
    have hm2 : sh set - 1 = (n : Int) := by omega
    have i1 : ¬ (n : Int) < 0 := by omega
    have HHE := Lib.hid (HE2.out h1); have HHZ := Lib.hid (HE3.out h1)
    rw [hm2] at CS
    clear HE1 HE2 HE3 h1 hm hm2
    go_enter Tryz.func31, Tryz.ntmps31
    have HS : Hid (Blk (w.alloc (.cells #[.slice B cs.length d, .slice D ns.length e] 45)) w.heap.size 45 #[.slice B cs.length d, .slice D ns.length e]) := Lib.hid (Blk.new w _ _)
    have HX : Hid (Ext w (w.alloc (.cells #[.slice B cs.length d, .slice D ns.length e] 45))) := Lib.hid (by repeat first | exact yx0 _ | assumption | refine yxa ?_ _ | refine yxd ?_ | refine yxn ?_ _ | refine yxs ?_ (by simp <;> omega) _ | refine yxt ?_ (by assumption))
    obtain ⟨m0, m1, _, _, ml⟩ := HS.out.c2
    go_wp2_with (first | (go_at_call 26; refine Calls.mono (CS.out _ (HSR.out.ext (HX.out.trans (by repeat first | exact yx0 _ | assumption | refine yxa ?_ _ | refine yxd ?_ | refine yxn ?_ _ | refine yxs ?_ (by simp <;> omega) _ | refine yxt ?_ (by assumption)))) (HRX.out.ext (HX.out.trans (by repeat first | exact yx0 _ | assumption | refine yxa ?_ _ | refine yxd ?_ | refine yxn ?_ _ | refine yxs ?_ (by simp <;> omega) _ | refine yxt ?_ (by assumption))))) ?_; rintro e9 w1 ⟨rfl, hb⟩; have HS9 := Lib.hid (HS.out.ext (Ext.trans (by repeat first | exact yx0 _ | assumption | refine yxa ?_ _ | refine yxd ?_ | refine yxn ?_ _ | refine yxs ?_ (by simp <;> omega) _ | refine yxt ?_ (by assumption)) hb)); have HX9 := Lib.hid (HX.out.trans (Ext.trans (by repeat first | exact yx0 _ | assumption | refine yxa ?_ _ | refine yxd ?_ | refine yxn ?_ _ | refine yxs ?_ (by simp <;> omega) _ | refine yxt ?_ (by assumption)) hb)); clear m0 m1 ml HS HX; have HS := HS9; have HX := HX9; clear HS9 HX9; obtain ⟨m0, m1, _, _, ml⟩ := HS.out.c2; clear hb))
    have HS1 := HS; have HX1 := HX
    clear m0 m1 ml HS HX
    go_loopw [5] (fun j wr => ∃ k : Nat, k ≤ set.length ∧ j = .int .i64 (k : Int) ∧ Hid (∀ j, j < k → sh (set.take j ++ set.drop (j + 1)) = 0) ∧ Hid (Blk wr w.heap.size 45 #[.slice B cs.length d, .slice D ns.length e]) ∧ Hid (Ext w wr)) (fun j _ => set.length - (intOf j).toNat)
    case atStart => exact ⟨0, Nat.zero_le _, rfl, Lib.hid (fun j hj => absurd hj (by omega)), HS1, HX1⟩
    case round =>
      obtain ⟨k, hk, rfl, H0, HS, HX⟩ := hrel
      clear HS1 HX1
      obtain ⟨m0, m1, _, _, ml⟩ := HS.out.c2
      by_cases hlt : k < set.length
      case neg =>
        obtain rfl : k = set.length := by omega
        have i3 : ¬ (set.length : Int) < (set.length : Int) := by omega
        have hE := HHZ.out H0.out
        subst hE
        go_wp2
        go_ret
        exact Ret.mk' rfl (HX.out.trans (by repeat first | exact yx0 _ | assumption | refine yxa ?_ _ | refine yxd ?_ | refine yxn ?_ _ | refine yxs ?_ (by simp <;> omega) _ | refine yxt ?_ (by assumption)))
      case pos =>
        have i3 : (k : Int) < (set.length : Int) := by omega
        obtain ⟨b, off, rfl, hbw, _⟩ := HRX.out.2.2 (by omega)
        have HRB := HRX
        have CWO := Lib.hid (fun W h => rWithout_any b off cx set k W h hc hlt (by omega))
        have CSWK := Lib.hid (fun X cx W h1 h2 => CS2.out X cx k W h1 h2)
        have HHK := Lib.hid (fun hb => HHE.out k H0.out hlt hb)
        have HNX : Hid (sh (set.take k ++ set.drop (k + 1)) = 0 → ∀ j, j < k + 1 → sh (set.take j ++ set.drop (j + 1)) = 0) := Lib.hid fun h j hj => by
          rcases Nat.lt_or_ge j k with h9 | h9
          · exact H0.out j h9
          · obtain rfl : j = k := by omega
            exact h
        have hnt := HNT.out (set.take k ++ set.drop (k + 1))
        clear CS CS2 HNT H0 HHE HHZ
        generalize set.take k ++ set.drop (k + 1) = l at *
        obtain ⟨m, hm⟩ := hnt
        have CSW : Hid (∀ X cx W, SR W ⟨B, d, cs, D, e, ns⟩ → RI W X l.length l → Calls Tryz.prog 26 #[.agg #[.slice B cs.length d, .slice D ns.length e], .slice X l.length cx] W (Ret (.int .i64 ((m : Int) - 1)) W)) := Lib.hid (by rw [← hm]; exact CSWK.out)
        clear CSWK
        by_cases hz : m = 0
        case pos =>
          subst hz
          have HN2 := Lib.hid (HNX.out (by rw [hm]; rfl))
          clear HHK HNX hm
          go_upto_region 6 with fail
          go_region_held3 (fun W => W.cell? ⟨w.heap.size, 0, none⟩ = some (.slice B cs.length d) ∧ W.cell? ⟨w.heap.size, 1, none⟩ = some (.slice D ns.length e) ∧ w.heap.size < W.heap.size) (first | exact ⟨m0, m1, ml⟩ | go_keep) (first | (go_at_call 69; refine Calls.mono (CWO.out _ (HRB.out.ext (HX.out.trans (by repeat first | exact yx0 _ | assumption | refine yxa ?_ _ | refine yxd ?_ | refine yxn ?_ _ | refine yxs ?_ (by simp <;> omega) _ | refine yxt ?_ (by assumption))))) ?_; rintro e9 w1 ⟨ZA, zc, rfl, hsl, hb⟩; have HS9 := Lib.hid (HS.out.ext (Ext.trans (by repeat first | exact yx0 _ | assumption | refine yxa ?_ _ | refine yxd ?_ | refine yxn ?_ _ | refine yxs ?_ (by simp <;> omega) _ | refine yxt ?_ (by assumption)) hb)); have HX9 := Lib.hid (HX.out.trans (Ext.trans (by repeat first | exact yx0 _ | assumption | refine yxa ?_ _ | refine yxd ?_ | refine yxn ?_ _ | refine yxs ?_ (by simp <;> omega) _ | refine yxt ?_ (by assumption)) hb)); clear m0 m1 ml HS HX; have HS := HS9; have HX := HX9; clear HS9 HX9; obtain ⟨m0, m1, _, _, ml⟩ := HS.out.c2; have HZ := Lib.hid hsl.ri; clear hsl hb) | (go_at_call 26; refine Calls.mono (CSW.out _ _ _ (HSR.out.ext (HX.out.trans (by repeat first | exact yx0 _ | assumption | refine yxa ?_ _ | refine yxd ?_ | refine yxn ?_ _ | refine yxs ?_ (by simp <;> omega) _ | refine yxt ?_ (by assumption)))) (HZ.out.ext (by repeat first | exact yx0 _ | assumption | refine yxa ?_ _ | refine yxd ?_ | refine yxn ?_ _ | refine yxs ?_ (by simp <;> omega) _ | refine yxt ?_ (by assumption)))) ?_; rintro e9 w1 ⟨rfl, hb⟩; have HS9 := Lib.hid (HS.out.ext (Ext.trans (by repeat first | exact yx0 _ | assumption | refine yxa ?_ _ | refine yxd ?_ | refine yxn ?_ _ | refine yxs ?_ (by simp <;> omega) _ | refine yxt ?_ (by assumption)) hb)); have HX9 := Lib.hid (HX.out.trans (Ext.trans (by repeat first | exact yx0 _ | assumption | refine yxa ?_ _ | refine yxd ?_ | refine yxn ?_ _ | refine yxs ?_ (by simp <;> omega) _ | refine yxt ?_ (by assumption)) hb)); clear m0 m1 ml HS HX; have HS := HS9; have HX := HX9; clear HS9 HX9; obtain ⟨m0, m1, _, _, ml⟩ := HS.out.c2; clear hb))
          go_wp2
          go_roundw
          case rel => exact ⟨k + 1, by omega, by go_num, HN2, HS, HX⟩
          case measure => simp [intOf] <;> omega
        case neg =>
          have hE := HHK.out (by omega)
          obtain ⟨m1q, rfl⟩ : ∃ m1q, m = m1q + 1 := ⟨m - 1, by omega⟩
          have hm3 : ((m1q + 1 : Nat) : Int) - 1 = (m1q : Int) := by omega
          rw [hm3] at CSW
          have i5 : (0 : Int) ≤ (m1q : Int) := by omega
          subst hE
          clear HHK HNX hm hz hm3
          go_upto_region 6 with fail
          go_region_held3 (fun W => W.cell? ⟨w.heap.size, 0, none⟩ = some (.slice B cs.length d) ∧ W.cell? ⟨w.heap.size, 1, none⟩ = some (.slice D ns.length e) ∧ w.heap.size < W.heap.size) (first | exact ⟨m0, m1, ml⟩ | go_keep) (first | (go_at_call 69; refine Calls.mono (CWO.out _ (HRB.out.ext (HX.out.trans (by repeat first | exact yx0 _ | assumption | refine yxa ?_ _ | refine yxd ?_ | refine yxn ?_ _ | refine yxs ?_ (by simp <;> omega) _ | refine yxt ?_ (by assumption))))) ?_; rintro e9 w1 ⟨ZA, zc, rfl, hsl, hb⟩; have HS9 := Lib.hid (HS.out.ext (Ext.trans (by repeat first | exact yx0 _ | assumption | refine yxa ?_ _ | refine yxd ?_ | refine yxn ?_ _ | refine yxs ?_ (by simp <;> omega) _ | refine yxt ?_ (by assumption)) hb)); have HX9 := Lib.hid (HX.out.trans (Ext.trans (by repeat first | exact yx0 _ | assumption | refine yxa ?_ _ | refine yxd ?_ | refine yxn ?_ _ | refine yxs ?_ (by simp <;> omega) _ | refine yxt ?_ (by assumption)) hb)); clear m0 m1 ml HS HX; have HS := HS9; have HX := HX9; clear HS9 HX9; obtain ⟨m0, m1, _, _, ml⟩ := HS.out.c2; have HZ := Lib.hid hsl.ri; clear hsl hb) | (go_at_call 26; refine Calls.mono (CSW.out _ _ _ (HSR.out.ext (HX.out.trans (by repeat first | exact yx0 _ | assumption | refine yxa ?_ _ | refine yxd ?_ | refine yxn ?_ _ | refine yxs ?_ (by simp <;> omega) _ | refine yxt ?_ (by assumption)))) (HZ.out.ext (by repeat first | exact yx0 _ | assumption | refine yxa ?_ _ | refine yxd ?_ | refine yxn ?_ _ | refine yxs ?_ (by simp <;> omega) _ | refine yxt ?_ (by assumption)))) ?_; rintro e9 w1 ⟨rfl, hb⟩; have HS9 := Lib.hid (HS.out.ext (Ext.trans (by repeat first | exact yx0 _ | assumption | refine yxa ?_ _ | refine yxd ?_ | refine yxn ?_ _ | refine yxs ?_ (by simp <;> omega) _ | refine yxt ?_ (by assumption)) hb)); have HX9 := Lib.hid (HX.out.trans (Ext.trans (by repeat first | exact yx0 _ | assumption | refine yxa ?_ _ | refine yxd ?_ | refine yxn ?_ _ | refine yxs ?_ (by simp <;> omega) _ | refine yxt ?_ (by assumption)) hb)); clear m0 m1 ml HS HX; have HS := HS9; have HX := HX9; clear HS9 HX9; obtain ⟨m0, m1, _, _, ml⟩ := HS.out.c2; clear hb))
          go_wp2
          go_ret
          exact Ret.mk' rfl (HX.out.trans (by repeat first | exact yx0 _ | assumption | refine yxa ?_ _ | refine yxd ?_ | refine yxn ?_ _ | refine yxs ?_ (by simp <;> omega) _ | refine yxt ?_ (by assumption)))
end Go.Proofs.YtfkjhgcablakgaaGreatDoor
