/-
  Walks: the error of a leader (program and reference), few leaders.
-/
import Derived.Test.YtffafbllgdonlaaGreatDoorLdMem
import Derived.Test.YtffafbllgdonlaaGreatDoorGJ
import Derived.Test.YtffafbllgdonlaaGreatDoorGC
import Derived.Test.YtffafbllgdonlaaGreatDoorGA
namespace Go.Proofs.YtffafbllgdonlaaGreatDoor
open Go.RowKit

theorem RL.three {w : World} {g : Nat} {T : TypeId} {r s t : SI} (hb : Blk w g T #[r.val, s.val, t.val]) (h : RI w r.A r.zs.length r.zs) (h' : RI w s.A s.zs.length s.zs) (h'' : RI w t.A t.zs.length t.zs) : RL w (some ⟨g, 0, none⟩) 3 [r, s, t] := by
  refine ⟨rfl, by omega, fun _ => ⟨g, 0, rfl, hb.lt, fun k hk => ?_⟩, fun k hk => ?_⟩
  · rcases (show k = 0 ∨ k = 1 ∨ k = 2 by omega) with rfl | rfl | rfl
    · exact hb.cell 0 _ rfl
    · exact hb.cell 1 _ rfl
    · exact hb.cell 2 _ rfl
  · rcases (show k = 0 ∨ k = 1 ∨ k = 2 by omega) with rfl | rfl | rfl
    · exact h
    · exact h'
    · exact h''
section
variable {n : Nat} {xs ys ds : List Int} {m : Int}
theorem ldErr_x (h : listErr n xs ≠ 0) : ldErr n xs ys ds m = listErr n xs := by unfold ldErr; rw [if_pos h]
theorem ldErr_y (h : listErr n xs = 0) (h1 : listErr n ys ≠ 0) : ldErr n xs ys ds m = listErr n ys := by unfold ldErr; rw [if_neg (by simpa using h), if_pos h1]
theorem ldErr_d (h : listErr n xs = 0) (h0 : listErr n ys = 0) (h1 : listErr n ds ≠ 0) : ldErr n xs ys ds m = listErr n ds := by unfold ldErr; rw [if_neg (by simpa using h), if_neg (by simpa using h0), if_pos h1]
theorem ldErr_r (h : listErr n xs = 0) (h0 : listErr n ys = 0) (h1 : listErr n ds = 0) : ldErr n xs ys ds m = if ¬ (1 ≤ ds.length ∧ ds.length ≤ 6) then 10 else if ¬ (1 ≤ m ∧ m ≤ 1000000) then 2 else 0 := by
  unfold ldErr; rw [if_neg (by simpa using h), if_neg (by simpa using h0), if_neg (by simpa using h1)]
end
theorem firstE_three (g : Nat → Int) : firstE g 3 = if g 0 ≠ 0 then g 0 else if g 1 ≠ 0 then g 1 else g 2 := by
  by_cases h0 : g 0 = 0
  · by_cases h1 : g 1 = 0
    · have h2 : firstE g 2 = 0 := firstE_none (fun k hk => by
        rcases (show k = 0 ∨ k = 1 by omega) with rfl | rfl
        · exact h0
        · exact h1)
      rw [if_neg (by simpa using h0), if_neg (by simpa using h1), firstE, h2]; simp
    · rw [if_neg (by simpa using h0), if_pos h1]
      exact firstE_hit (k := 1) (fun j hj => by obtain rfl : j = 0 := by omega
                                                exact h0) h1 (by omega)
  · rw [if_pos h0]
    exact firstE_hit (k := 0) (fun j hj => absurd hj (by omega)) h0 (by omega)
theorem sortsE_three (f : FT) (r s t : SI) : sortsE f [r, s, t] = if listChk f r.zs ≠ 0 then listChk f r.zs else if listChk f s.zs ≠ 0 then listChk f s.zs else listChk f t.zs :=
  firstE_three _
set_option maxRecDepth 100000 in
set_option maxHeartbeats 8000000 in
theorem pLeaderErr_any (f : FT) (A : Option Addr) (c : Nat) (x : LD) (w : World) (hf : FR w A c f) (hx : LDR w x) (hck : (chk f).2 = 0) :
    Calls Tryz.prog 49 #[f.val A c, x.val] w (Ret (.int .i64 (ldErr f.sorts.length x.xs x.ys x.ds x.m)) w) := by
  have cS := fun B d rows W h1 h2 => sortsErr_any f A c B 3 d rows W h1 h2
  have hbd := hx.rd.big
  have HF := Lib.hid hf; have HRX := Lib.hid hx.rx; have HRY := Lib.hid hx.ry; have HRD := Lib.hid hx.rd
  have hlc : ∀ zs, listChk f zs = listErr f.sorts.length zs := fun zs => by unfold listChk; rw [if_neg (by simpa using hck)]
  clear hf hx
  obtain ⟨X, cx, xs, Y, cy, ys, D, cd, ds, m⟩ := x
  simp only [LD.val] at *
  have hse := sortsE_three f ⟨X, cx, xs⟩ ⟨Y, cy, ys⟩ ⟨D, cd, ds⟩
  simp only [hlc] at hse
  have cS1 := fun B d W h1 h2 => cS B d [⟨X, cx, xs⟩, ⟨Y, cy, ys⟩, ⟨D, cd, ds⟩] W h1 h2
  clear cS hlc hck
  by_cases hz : sortsE f [⟨X, cx, xs⟩, ⟨Y, cy, ys⟩, ⟨D, cd, ds⟩] = 0
  case neg =>
    have HE : Hid (ldErr f.sorts.length xs ys ds m = sortsE f [⟨X, cx, xs⟩, ⟨Y, cy, ys⟩, ⟨D, cd, ds⟩]) := Lib.hid (by
      rw [hse] at hz ⊢
      by_cases h1 : listErr f.sorts.length xs = 0
      · by_cases h2 : listErr f.sorts.length ys = 0
        · rw [if_neg (by simpa using h1), if_neg (by simpa using h2)] at hz ⊢
          exact ldErr_d h1 h2 hz
        · rw [if_neg (by simpa using h1), if_pos h2]; exact ldErr_y h1 h2
      · rw [if_pos h1]; exact ldErr_x h1)
    have e0 : (sortsE f [⟨X, cx, xs⟩, ⟨Y, cy, ys⟩, ⟨D, cd, ds⟩] != 0) = true := by simpa using hz
    clear hse hz
    generalize sortsE f [⟨X, cx, xs⟩, ⟨Y, cy, ys⟩, ⟨D, cd, ds⟩] = z at *
    generalize ldErr f.sorts.length xs ys ds m = V at *
    obtain ⟨name, body, ss⟩ := f
    simp only [FT.val] at *
    have CSE := Lib.hid cS1; clear cS1
    go_enter Tryz.func49, Tryz.ntmps49
    obtain ⟨wq, hwq⟩ : ∃ wq, (w.alloc (.cells #[.string name, .int .i64 body, .slice A ss.length c] 24)).alloc (.cells #[.slice X xs.length cx, .slice Y ys.length cy, .slice D ds.length cd, .int .i64 m] 27) = wq := ⟨_, rfl⟩
    have HB : Hid (Blk wq w.heap.size 24 #[.string name, .int .i64 body, .slice A ss.length c]) := Lib.hid (by rw [← hwq]; exact (Blk.new w _ _).alloc _)
    have HS : Hid (Blk wq (w.heap.size + 1) 27 #[.slice X xs.length cx, .slice Y ys.length cy, .slice D ds.length cd, .int .i64 m]) := Lib.hid (by rw [← hwq]; exact Blk.new1 w _ _ _)
    have HX : Hid (Ext w wq) := Lib.hid (by rw [← hwq]; exact (by repeat first | exact zx0 _ | assumption | refine zxa ?_ _ | refine zxd ?_ | refine zxn ?_ _ | refine zxs ?_ (by simp <;> omega) _ | refine zxt ?_ (by assumption)))
    go_upto_region 1 with fail
    (try rw [hwq])
    clear hwq
    obtain ⟨k0, k1, k2, kl⟩ := HB.out.c3; obtain ⟨m0, m1, m2, m3, ml⟩ := HS.out.c4
    go_upto_region 2 with (go_at_call 50; refine Calls.mono (CSE.out _ _ _ (HF.out.ext (HX.out.trans (by repeat first | exact zx0 _ | assumption | refine zxa ?_ _ | refine zxd ?_ | refine zxn ?_ _ | refine zxs ?_ (by simp <;> omega) _ | refine zxt ?_ (by assumption)))) (RL.three (Blk.new _ _ _) (HRX.out.ext (HX.out.trans (by repeat first | exact zx0 _ | assumption | refine zxa ?_ _ | refine zxd ?_ | refine zxn ?_ _ | refine zxs ?_ (by simp <;> omega) _ | refine zxt ?_ (by assumption)))) (HRY.out.ext (HX.out.trans (by repeat first | exact zx0 _ | assumption | refine zxa ?_ _ | refine zxd ?_ | refine zxn ?_ _ | refine zxs ?_ (by simp <;> omega) _ | refine zxt ?_ (by assumption)))) (HRD.out.ext (HX.out.trans (by repeat first | exact zx0 _ | assumption | refine zxa ?_ _ | refine zxd ?_ | refine zxn ?_ _ | refine zxs ?_ (by simp <;> omega) _ | refine zxt ?_ (by assumption)))))) ?_; rintro e9 w1 ⟨rfl, hb⟩; have hq := zxx HX.out (by repeat first | exact zx0 _ | assumption | refine zxa ?_ _ | refine zxd ?_ | refine zxn ?_ _ | refine zxs ?_ (by simp <;> omega) _ | refine zxt ?_ (by assumption)) hb; have HB9 := Lib.hid (HB.out.ext hq); have HS9 := Lib.hid (HS.out.ext hq); have HX9 := Lib.hid (HX.out.trans hq); clear k0 k1 k2 kl m0 m1 m2 m3 ml HB HS HX; have HB := HB9; have HS := HS9; have HX := HX9; clear HB9 HS9 HX9; obtain ⟨k0, k1, k2, kl⟩ := HB.out.c3; obtain ⟨m0, m1, m2, m3, ml⟩ := HS.out.c4; clear hq; clear hb)
    go_wp2
    go_ret
    exact Ret.mk' (by rw [HE.out]; rfl) (HX.out.trans (by repeat first | exact zx0 _ | assumption | refine zxa ?_ _ | refine zxd ?_ | refine zxn ?_ _ | refine zxs ?_ (by simp <;> omega) _ | refine zxt ?_ (by assumption)))
  case pos =>
  have hr : ldErr f.sorts.length xs ys ds m = if ¬ (1 ≤ ds.length ∧ ds.length ≤ 6) then 10 else if ¬ (1 ≤ m ∧ m ≤ 1000000) then 2 else 0 := by
    rw [hz] at hse
    by_cases h1 : listErr f.sorts.length xs = 0
    · by_cases h2 : listErr f.sorts.length ys = 0
      · rw [if_neg (by simpa using h1), if_neg (by simpa using h2)] at hse
        exact ldErr_r h1 h2 hse.symm
      · rw [if_neg (by simpa using h1), if_pos h2] at hse; exact absurd hse.symm h2
    · rw [if_pos h1] at hse; exact absurd hse.symm h1
  rw [hz] at cS1
  have HE2 : Hid (¬ (1 ≤ ds.length ∧ ds.length ≤ 6) → ldErr f.sorts.length xs ys ds m = 10) := Lib.hid fun h => by rw [hr, if_pos h]
  have HE3 : Hid ((1 ≤ ds.length ∧ ds.length ≤ 6) → ¬ (1 ≤ m ∧ m ≤ 1000000) → ldErr f.sorts.length xs ys ds m = 2) := Lib.hid fun h h1 => by rw [hr, if_neg (by simpa using h), if_pos h1]
  have HE4 : Hid ((1 ≤ ds.length ∧ ds.length ≤ 6) → (1 ≤ m ∧ m ≤ 1000000) → ldErr f.sorts.length xs ys ds m = 0) := Lib.hid fun h h1 => by rw [hr, if_neg (by simpa using h), if_neg (by simpa using h1)]
  clear hse hz hr
  generalize ldErr f.sorts.length xs ys ds m = V at *
  obtain ⟨name, body, ss⟩ := f
  simp only [FT.val] at *
  have CSE := Lib.hid cS1; clear cS1
  by_cases h4 : 1 ≤ ds.length ∧ ds.length ≤ 6
  case neg =>
    have HE := Lib.hid (HE2.out h4)
    have CW := Lib.hid (fun W => pWithin_no (ds.length : Int) 1 6 W (by omega))
    clear h4 HE2 HE3 HE4
    go_enter Tryz.func49, Tryz.ntmps49
    obtain ⟨wq, hwq⟩ : ∃ wq, (w.alloc (.cells #[.string name, .int .i64 body, .slice A ss.length c] 24)).alloc (.cells #[.slice X xs.length cx, .slice Y ys.length cy, .slice D ds.length cd, .int .i64 m] 27) = wq := ⟨_, rfl⟩
    have HB : Hid (Blk wq w.heap.size 24 #[.string name, .int .i64 body, .slice A ss.length c]) := Lib.hid (by rw [← hwq]; exact (Blk.new w _ _).alloc _)
    have HS : Hid (Blk wq (w.heap.size + 1) 27 #[.slice X xs.length cx, .slice Y ys.length cy, .slice D ds.length cd, .int .i64 m]) := Lib.hid (by rw [← hwq]; exact Blk.new1 w _ _ _)
    have HX : Hid (Ext w wq) := Lib.hid (by rw [← hwq]; exact (by repeat first | exact zx0 _ | assumption | refine zxa ?_ _ | refine zxd ?_ | refine zxn ?_ _ | refine zxs ?_ (by simp <;> omega) _ | refine zxt ?_ (by assumption)))
    go_upto_region 1 with fail
    (try rw [hwq])
    clear hwq
    obtain ⟨k0, k1, k2, kl⟩ := HB.out.c3; obtain ⟨m0, m1, m2, m3, ml⟩ := HS.out.c4
    go_upto_region 2 with (go_at_call 50; refine Calls.mono (CSE.out _ _ _ (HF.out.ext (HX.out.trans (by repeat first | exact zx0 _ | assumption | refine zxa ?_ _ | refine zxd ?_ | refine zxn ?_ _ | refine zxs ?_ (by simp <;> omega) _ | refine zxt ?_ (by assumption)))) (RL.three (Blk.new _ _ _) (HRX.out.ext (HX.out.trans (by repeat first | exact zx0 _ | assumption | refine zxa ?_ _ | refine zxd ?_ | refine zxn ?_ _ | refine zxs ?_ (by simp <;> omega) _ | refine zxt ?_ (by assumption)))) (HRY.out.ext (HX.out.trans (by repeat first | exact zx0 _ | assumption | refine zxa ?_ _ | refine zxd ?_ | refine zxn ?_ _ | refine zxs ?_ (by simp <;> omega) _ | refine zxt ?_ (by assumption)))) (HRD.out.ext (HX.out.trans (by repeat first | exact zx0 _ | assumption | refine zxa ?_ _ | refine zxd ?_ | refine zxn ?_ _ | refine zxs ?_ (by simp <;> omega) _ | refine zxt ?_ (by assumption)))))) ?_; rintro e9 w1 ⟨rfl, hb⟩; have hq := zxx HX.out (by repeat first | exact zx0 _ | assumption | refine zxa ?_ _ | refine zxd ?_ | refine zxn ?_ _ | refine zxs ?_ (by simp <;> omega) _ | refine zxt ?_ (by assumption)) hb; have HB9 := Lib.hid (HB.out.ext hq); have HS9 := Lib.hid (HS.out.ext hq); have HX9 := Lib.hid (HX.out.trans hq); clear k0 k1 k2 kl m0 m1 m2 m3 ml HB HS HX; have HB := HB9; have HS := HS9; have HX := HX9; clear HB9 HS9 HX9; obtain ⟨k0, k1, k2, kl⟩ := HB.out.c3; obtain ⟨m0, m1, m2, m3, ml⟩ := HS.out.c4; clear hq; clear hb)
    go_wp2_with (go_at_call 74; refine Calls.mono (CW.out _) ?_; rintro e9 w2 ⟨rfl, rfl⟩)
    go_ret
    exact Ret.mk' (by rw [HE.out]; rfl) (HX.out.trans (by repeat first | exact zx0 _ | assumption | refine zxa ?_ _ | refine zxd ?_ | refine zxn ?_ _ | refine zxs ?_ (by simp <;> omega) _ | refine zxt ?_ (by assumption)))
  case pos =>
  have CW := Lib.hid (fun W => pWithin_yes (ds.length : Int) 1 6 W (by omega))
  by_cases h5 : 1 ≤ m ∧ m ≤ 1000000
  case neg =>
    have HE := Lib.hid (HE3.out h4 h5)
    have CV := Lib.hid (fun W => pWithin_no m 1 1000000 W h5)
    clear h4 h5 HE2 HE3 HE4
    go_enter Tryz.func49, Tryz.ntmps49
    obtain ⟨wq, hwq⟩ : ∃ wq, (w.alloc (.cells #[.string name, .int .i64 body, .slice A ss.length c] 24)).alloc (.cells #[.slice X xs.length cx, .slice Y ys.length cy, .slice D ds.length cd, .int .i64 m] 27) = wq := ⟨_, rfl⟩
    have HB : Hid (Blk wq w.heap.size 24 #[.string name, .int .i64 body, .slice A ss.length c]) := Lib.hid (by rw [← hwq]; exact (Blk.new w _ _).alloc _)
    have HS : Hid (Blk wq (w.heap.size + 1) 27 #[.slice X xs.length cx, .slice Y ys.length cy, .slice D ds.length cd, .int .i64 m]) := Lib.hid (by rw [← hwq]; exact Blk.new1 w _ _ _)
    have HX : Hid (Ext w wq) := Lib.hid (by rw [← hwq]; exact (by repeat first | exact zx0 _ | assumption | refine zxa ?_ _ | refine zxd ?_ | refine zxn ?_ _ | refine zxs ?_ (by simp <;> omega) _ | refine zxt ?_ (by assumption)))
    go_upto_region 1 with fail
    (try rw [hwq])
    clear hwq
    obtain ⟨k0, k1, k2, kl⟩ := HB.out.c3; obtain ⟨m0, m1, m2, m3, ml⟩ := HS.out.c4
    go_upto_region 2 with (go_at_call 50; refine Calls.mono (CSE.out _ _ _ (HF.out.ext (HX.out.trans (by repeat first | exact zx0 _ | assumption | refine zxa ?_ _ | refine zxd ?_ | refine zxn ?_ _ | refine zxs ?_ (by simp <;> omega) _ | refine zxt ?_ (by assumption)))) (RL.three (Blk.new _ _ _) (HRX.out.ext (HX.out.trans (by repeat first | exact zx0 _ | assumption | refine zxa ?_ _ | refine zxd ?_ | refine zxn ?_ _ | refine zxs ?_ (by simp <;> omega) _ | refine zxt ?_ (by assumption)))) (HRY.out.ext (HX.out.trans (by repeat first | exact zx0 _ | assumption | refine zxa ?_ _ | refine zxd ?_ | refine zxn ?_ _ | refine zxs ?_ (by simp <;> omega) _ | refine zxt ?_ (by assumption)))) (HRD.out.ext (HX.out.trans (by repeat first | exact zx0 _ | assumption | refine zxa ?_ _ | refine zxd ?_ | refine zxn ?_ _ | refine zxs ?_ (by simp <;> omega) _ | refine zxt ?_ (by assumption)))))) ?_; rintro e9 w1 ⟨rfl, hb⟩; have hq := zxx HX.out (by repeat first | exact zx0 _ | assumption | refine zxa ?_ _ | refine zxd ?_ | refine zxn ?_ _ | refine zxs ?_ (by simp <;> omega) _ | refine zxt ?_ (by assumption)) hb; have HB9 := Lib.hid (HB.out.ext hq); have HS9 := Lib.hid (HS.out.ext hq); have HX9 := Lib.hid (HX.out.trans hq); clear k0 k1 k2 kl m0 m1 m2 m3 ml HB HS HX; have HB := HB9; have HS := HS9; have HX := HX9; clear HB9 HS9 HX9; obtain ⟨k0, k1, k2, kl⟩ := HB.out.c3; obtain ⟨m0, m1, m2, m3, ml⟩ := HS.out.c4; clear hq; clear hb)
    go_upto_region 6 with (go_at_call 74; refine Calls.mono (CW.out _) ?_; rintro e9 w2 ⟨rfl, rfl⟩)
    go_wp2_with (go_at_call 74; refine Calls.mono (CV.out _) ?_; rintro e9 w2 ⟨rfl, rfl⟩)
    go_ret
    exact Ret.mk' (by rw [HE.out]; rfl) (HX.out.trans (by repeat first | exact zx0 _ | assumption | refine zxa ?_ _ | refine zxd ?_ | refine zxn ?_ _ | refine zxs ?_ (by simp <;> omega) _ | refine zxt ?_ (by assumption)))
  case pos =>
    have HE := Lib.hid (HE4.out h4 h5)
    have CV := Lib.hid (fun W => pWithin_yes m 1 1000000 W h5)
    clear h4 h5 HE2 HE3 HE4
    go_enter Tryz.func49, Tryz.ntmps49
    obtain ⟨wq, hwq⟩ : ∃ wq, (w.alloc (.cells #[.string name, .int .i64 body, .slice A ss.length c] 24)).alloc (.cells #[.slice X xs.length cx, .slice Y ys.length cy, .slice D ds.length cd, .int .i64 m] 27) = wq := ⟨_, rfl⟩
    have HB : Hid (Blk wq w.heap.size 24 #[.string name, .int .i64 body, .slice A ss.length c]) := Lib.hid (by rw [← hwq]; exact (Blk.new w _ _).alloc _)
    have HS : Hid (Blk wq (w.heap.size + 1) 27 #[.slice X xs.length cx, .slice Y ys.length cy, .slice D ds.length cd, .int .i64 m]) := Lib.hid (by rw [← hwq]; exact Blk.new1 w _ _ _)
    have HX : Hid (Ext w wq) := Lib.hid (by rw [← hwq]; exact (by repeat first | exact zx0 _ | assumption | refine zxa ?_ _ | refine zxd ?_ | refine zxn ?_ _ | refine zxs ?_ (by simp <;> omega) _ | refine zxt ?_ (by assumption)))
    go_upto_region 1 with fail
    (try rw [hwq])
    clear hwq
    obtain ⟨k0, k1, k2, kl⟩ := HB.out.c3; obtain ⟨m0, m1, m2, m3, ml⟩ := HS.out.c4
    go_upto_region 2 with (go_at_call 50; refine Calls.mono (CSE.out _ _ _ (HF.out.ext (HX.out.trans (by repeat first | exact zx0 _ | assumption | refine zxa ?_ _ | refine zxd ?_ | refine zxn ?_ _ | refine zxs ?_ (by simp <;> omega) _ | refine zxt ?_ (by assumption)))) (RL.three (Blk.new _ _ _) (HRX.out.ext (HX.out.trans (by repeat first | exact zx0 _ | assumption | refine zxa ?_ _ | refine zxd ?_ | refine zxn ?_ _ | refine zxs ?_ (by simp <;> omega) _ | refine zxt ?_ (by assumption)))) (HRY.out.ext (HX.out.trans (by repeat first | exact zx0 _ | assumption | refine zxa ?_ _ | refine zxd ?_ | refine zxn ?_ _ | refine zxs ?_ (by simp <;> omega) _ | refine zxt ?_ (by assumption)))) (HRD.out.ext (HX.out.trans (by repeat first | exact zx0 _ | assumption | refine zxa ?_ _ | refine zxd ?_ | refine zxn ?_ _ | refine zxs ?_ (by simp <;> omega) _ | refine zxt ?_ (by assumption)))))) ?_; rintro e9 w1 ⟨rfl, hb⟩; have hq := zxx HX.out (by repeat first | exact zx0 _ | assumption | refine zxa ?_ _ | refine zxd ?_ | refine zxn ?_ _ | refine zxs ?_ (by simp <;> omega) _ | refine zxt ?_ (by assumption)) hb; have HB9 := Lib.hid (HB.out.ext hq); have HS9 := Lib.hid (HS.out.ext hq); have HX9 := Lib.hid (HX.out.trans hq); clear k0 k1 k2 kl m0 m1 m2 m3 ml HB HS HX; have HB := HB9; have HS := HS9; have HX := HX9; clear HB9 HS9 HX9; obtain ⟨k0, k1, k2, kl⟩ := HB.out.c3; obtain ⟨m0, m1, m2, m3, ml⟩ := HS.out.c4; clear hq; clear hb)
    go_upto_region 6 with (go_at_call 74; refine Calls.mono (CW.out _) ?_; rintro e9 w2 ⟨rfl, rfl⟩)
    go_wp2_with (go_at_call 74; refine Calls.mono (CV.out _) ?_; rintro e9 w2 ⟨rfl, rfl⟩)
    go_ret
    exact Ret.mk' (by rw [HE.out]; rfl) (HX.out.trans (by repeat first | exact zx0 _ | assumption | refine zxa ?_ _ | refine zxd ?_ | refine zxn ?_ _ | refine zxs ?_ (by simp <;> omega) _ | refine zxt ?_ (by assumption)))
set_option maxRecDepth 100000 in
set_option maxHeartbeats 8000000 in
theorem rLeaderErr_any (f : FT) (A : Option Addr) (c : Nat) (x : LD) (w : World) (hf : FR w A c f) (hx : LDR w x) :
    Calls Tryz.prog 58 #[f.val A c, x.val] w (Ret (.int .i64 (ldErr f.sorts.length x.xs x.ys x.ds x.m)) w) := by
  have cL := fun B d zs W h1 h2 => rListErr_any f A c B d zs W h1 h2
  have hbd := hx.rd.big
  have HF := Lib.hid hf; have HRX := Lib.hid hx.rx; have HRY := Lib.hid hx.ry; have HRD := Lib.hid hx.rd
  clear hf hx
  obtain ⟨X, cx, xs, Y, cy, ys, D, cd, ds, m⟩ := x
  simp only [LD.val] at *
  obtain ⟨name, body, ss⟩ := f
  simp only [FT.val] at *
  have HEX := Lib.hid (fun h => ldErr_x (n := ss.length) (xs := xs) (ys := ys) (ds := ds) (m := m) h)
  have HEY := Lib.hid (fun h h1 => ldErr_y (n := ss.length) (xs := xs) (ys := ys) (ds := ds) (m := m) h h1)
  have HED := Lib.hid (fun h h0 h1 => ldErr_d (n := ss.length) (xs := xs) (ys := ys) (ds := ds) (m := m) h h0 h1)
  have HER := Lib.hid (fun h h0 h1 => ldErr_r (n := ss.length) (xs := xs) (ys := ys) (ds := ds) (m := m) h h0 h1)
  have CX := Lib.hid (fun W h1 h2 => cL X cx xs W h1 h2); have CY := Lib.hid (fun W h1 h2 => cL Y cy ys W h1 h2); have CD := Lib.hid (fun W h1 h2 => cL D cd ds W h1 h2)
  clear cL
  generalize ldErr ss.length xs ys ds m = V at *
  go_enter Tryz.func58, Tryz.ntmps58
  obtain ⟨wq, hwq⟩ : ∃ wq, (w.alloc (.cells #[.string name, .int .i64 body, .slice A ss.length c] 24)).alloc (.cells #[.slice X xs.length cx, .slice Y ys.length cy, .slice D ds.length cd, .int .i64 m] 27) = wq := ⟨_, rfl⟩
  have HB : Hid (Blk wq w.heap.size 24 #[.string name, .int .i64 body, .slice A ss.length c]) := Lib.hid (by rw [← hwq]; exact (Blk.new w _ _).alloc _)
  have HS : Hid (Blk wq (w.heap.size + 1) 27 #[.slice X xs.length cx, .slice Y ys.length cy, .slice D ds.length cd, .int .i64 m]) := Lib.hid (by rw [← hwq]; exact Blk.new1 w _ _ _)
  have HX : Hid (Ext w wq) := Lib.hid (by rw [← hwq]; exact (by repeat first | exact zx0 _ | assumption | refine zxa ?_ _ | refine zxd ?_ | refine zxn ?_ _ | refine zxs ?_ (by simp <;> omega) _ | refine zxt ?_ (by assumption)))
  go_upto_region 1 with fail
  (try rw [hwq])
  clear hwq
  obtain ⟨k0, k1, k2, kl⟩ := HB.out.c3; obtain ⟨m0, m1, m2, m3, ml⟩ := HS.out.c4
  go_wp2
  have HB1 := HB; have HS1 := HS; have HX1 := HX
  clear k0 k1 k2 kl m0 m1 m2 m3 ml HB HS HX
  go_loopw [6, 7, 15] (fun _ _ i wr => ∃ k : Nat, k ≤ 3 ∧ i = .int .i64 (k : Int) ∧ Hid ((0 < k → listErr ss.length xs = 0) ∧ (1 < k → listErr ss.length ys = 0) ∧ (2 < k → listErr ss.length ds = 0)) ∧ Hid (Blk wr w.heap.size 24 #[.string name, .int .i64 body, .slice A ss.length c]) ∧ Hid (Blk wr (w.heap.size + 1) 27 #[.slice X xs.length cx, .slice Y ys.length cy, .slice D ds.length cd, .int .i64 m]) ∧ Hid (Ext w wr)) (fun _ _ i _ => 3 - (intOf i).toNat)
  case atStart => exact ⟨0, by omega, rfl, Lib.hid ⟨fun h => absurd h (by omega), fun h => absurd h (by omega), fun h => absurd h (by omega)⟩, HB1, HS1, HX1⟩
  case round =>
    obtain ⟨k, hk, rfl, H0, HB, HS, HX⟩ := hrel
    clear HB1 HS1 HX1
    obtain ⟨k0, k1, k2, kl⟩ := HB.out.c3; obtain ⟨m0, m1, m2, m3, ml⟩ := HS.out.c4
    have HE2 : Hid True := Lib.hid trivial; have HE3 := HE2; have HE4 := HE2
    have x0 : ∀ w, (Instr.index 179 (.agg #[.slice X xs.length cx, .slice Y ys.length cy, .slice D ds.length cd]) (.int .i64 0)).run Tryz.prog w = .ok (.slice X xs.length cx) w := fun _ => by kernel_rfl
    have x1 : ∀ w, (Instr.index 179 (.agg #[.slice X xs.length cx, .slice Y ys.length cy, .slice D ds.length cd]) (.int .i64 1)).run Tryz.prog w = .ok (.slice Y ys.length cy) w := fun _ => by kernel_rfl
    have x2 : ∀ w, (Instr.index 179 (.agg #[.slice X xs.length cx, .slice Y ys.length cy, .slice D ds.length cd]) (.int .i64 2)).run Tryz.prog w = .ok (.slice D ds.length cd) w := fun _ => by kernel_rfl
    rcases (show k = 0 ∨ k = 1 ∨ k = 2 ∨ k = 3 by omega) with rfl | rfl | rfl | rfl
    · have HE8 := Lib.hid (fun h => HEX.out h)
      clear HEX HEY HED HER CY CD
      have hc9 := CX.out
      by_cases hy : listErr ss.length xs = 0
      case neg =>
        have e0 : (listErr ss.length xs != 0) = true := by simpa using hy
        have HE := Lib.hid (HE8.out hy)
        generalize listErr ss.length xs = y at *
        have C9 := Lib.hid hc9
        clear hc9 HE2 HE3 HE4 hy
        go_wp2_with (go_at_call 34; refine Calls.mono (C9.out _ (HF.out.ext (HX.out.trans (by repeat first | exact zx0 _ | assumption | refine zxa ?_ _ | refine zxd ?_ | refine zxn ?_ _ | refine zxs ?_ (by simp <;> omega) _ | refine zxt ?_ (by assumption)))) (HRX.out.ext (HX.out.trans (by repeat first | exact zx0 _ | assumption | refine zxa ?_ _ | refine zxd ?_ | refine zxn ?_ _ | refine zxs ?_ (by simp <;> omega) _ | refine zxt ?_ (by assumption))))) ?_; rintro e9 w1 ⟨rfl, hb⟩; have hq := zxx HX.out (by repeat first | exact zx0 _ | assumption | refine zxa ?_ _ | refine zxd ?_ | refine zxn ?_ _ | refine zxs ?_ (by simp <;> omega) _ | refine zxt ?_ (by assumption)) hb; have HB9 := Lib.hid (HB.out.ext hq); have HS9 := Lib.hid (HS.out.ext hq); have HX9 := Lib.hid (HX.out.trans hq); clear k0 k1 k2 kl m0 m1 m2 m3 ml HB HS HX; have HB := HB9; have HS := HS9; have HX := HX9; clear HB9 HS9 HX9; obtain ⟨k0, k1, k2, kl⟩ := HB.out.c3; obtain ⟨m0, m1, m2, m3, ml⟩ := HS.out.c4; clear hq; clear hb)
        go_ret
        exact Ret.mk' (by rw [HE.out]; rfl) (HX.out.trans (by repeat first | exact zx0 _ | assumption | refine zxa ?_ _ | refine zxd ?_ | refine zxn ?_ _ | refine zxs ?_ (by simp <;> omega) _ | refine zxt ?_ (by assumption)))
      case pos =>
        rw [hy] at hc9
        have C9 := Lib.hid hc9
        have HY := Lib.hid hy
        clear hc9 hy
        go_wp2_with (go_at_call 34; refine Calls.mono (C9.out _ (HF.out.ext (HX.out.trans (by repeat first | exact zx0 _ | assumption | refine zxa ?_ _ | refine zxd ?_ | refine zxn ?_ _ | refine zxs ?_ (by simp <;> omega) _ | refine zxt ?_ (by assumption)))) (HRX.out.ext (HX.out.trans (by repeat first | exact zx0 _ | assumption | refine zxa ?_ _ | refine zxd ?_ | refine zxn ?_ _ | refine zxs ?_ (by simp <;> omega) _ | refine zxt ?_ (by assumption))))) ?_; rintro e9 w1 ⟨rfl, hb⟩; have hq := zxx HX.out (by repeat first | exact zx0 _ | assumption | refine zxa ?_ _ | refine zxd ?_ | refine zxn ?_ _ | refine zxs ?_ (by simp <;> omega) _ | refine zxt ?_ (by assumption)) hb; have HB9 := Lib.hid (HB.out.ext hq); have HS9 := Lib.hid (HS.out.ext hq); have HX9 := Lib.hid (HX.out.trans hq); clear k0 k1 k2 kl m0 m1 m2 m3 ml HB HS HX; have HB := HB9; have HS := HS9; have HX := HX9; clear HB9 HS9 HX9; obtain ⟨k0, k1, k2, kl⟩ := HB.out.c3; obtain ⟨m0, m1, m2, m3, ml⟩ := HS.out.c4; clear hq; clear hb)
        go_roundw
        case rel => exact ⟨1, by omega, by go_num, Lib.hid (by exact ⟨fun _ => HY.out, fun h => absurd h (by omega), fun h => absurd h (by omega)⟩), HB, HS, HX⟩
        case measure => simp [intOf]
    · have HE8 := Lib.hid (fun h => HEY.out (H0.out.1 (by omega)) h)
      clear HEX HEY HED HER CX CD
      have hc9 := CY.out
      by_cases hy : listErr ss.length ys = 0
      case neg =>
        have e0 : (listErr ss.length ys != 0) = true := by simpa using hy
        have HE := Lib.hid (HE8.out hy)
        generalize listErr ss.length ys = y at *
        have C9 := Lib.hid hc9
        clear hc9 HE2 HE3 HE4 hy
        go_wp2_with (go_at_call 34; refine Calls.mono (C9.out _ (HF.out.ext (HX.out.trans (by repeat first | exact zx0 _ | assumption | refine zxa ?_ _ | refine zxd ?_ | refine zxn ?_ _ | refine zxs ?_ (by simp <;> omega) _ | refine zxt ?_ (by assumption)))) (HRY.out.ext (HX.out.trans (by repeat first | exact zx0 _ | assumption | refine zxa ?_ _ | refine zxd ?_ | refine zxn ?_ _ | refine zxs ?_ (by simp <;> omega) _ | refine zxt ?_ (by assumption))))) ?_; rintro e9 w1 ⟨rfl, hb⟩; have hq := zxx HX.out (by repeat first | exact zx0 _ | assumption | refine zxa ?_ _ | refine zxd ?_ | refine zxn ?_ _ | refine zxs ?_ (by simp <;> omega) _ | refine zxt ?_ (by assumption)) hb; have HB9 := Lib.hid (HB.out.ext hq); have HS9 := Lib.hid (HS.out.ext hq); have HX9 := Lib.hid (HX.out.trans hq); clear k0 k1 k2 kl m0 m1 m2 m3 ml HB HS HX; have HB := HB9; have HS := HS9; have HX := HX9; clear HB9 HS9 HX9; obtain ⟨k0, k1, k2, kl⟩ := HB.out.c3; obtain ⟨m0, m1, m2, m3, ml⟩ := HS.out.c4; clear hq; clear hb)
        go_ret
        exact Ret.mk' (by rw [HE.out]; rfl) (HX.out.trans (by repeat first | exact zx0 _ | assumption | refine zxa ?_ _ | refine zxd ?_ | refine zxn ?_ _ | refine zxs ?_ (by simp <;> omega) _ | refine zxt ?_ (by assumption)))
      case pos =>
        rw [hy] at hc9
        have C9 := Lib.hid hc9
        have HY := Lib.hid hy
        clear hc9 hy
        go_wp2_with (go_at_call 34; refine Calls.mono (C9.out _ (HF.out.ext (HX.out.trans (by repeat first | exact zx0 _ | assumption | refine zxa ?_ _ | refine zxd ?_ | refine zxn ?_ _ | refine zxs ?_ (by simp <;> omega) _ | refine zxt ?_ (by assumption)))) (HRY.out.ext (HX.out.trans (by repeat first | exact zx0 _ | assumption | refine zxa ?_ _ | refine zxd ?_ | refine zxn ?_ _ | refine zxs ?_ (by simp <;> omega) _ | refine zxt ?_ (by assumption))))) ?_; rintro e9 w1 ⟨rfl, hb⟩; have hq := zxx HX.out (by repeat first | exact zx0 _ | assumption | refine zxa ?_ _ | refine zxd ?_ | refine zxn ?_ _ | refine zxs ?_ (by simp <;> omega) _ | refine zxt ?_ (by assumption)) hb; have HB9 := Lib.hid (HB.out.ext hq); have HS9 := Lib.hid (HS.out.ext hq); have HX9 := Lib.hid (HX.out.trans hq); clear k0 k1 k2 kl m0 m1 m2 m3 ml HB HS HX; have HB := HB9; have HS := HS9; have HX := HX9; clear HB9 HS9 HX9; obtain ⟨k0, k1, k2, kl⟩ := HB.out.c3; obtain ⟨m0, m1, m2, m3, ml⟩ := HS.out.c4; clear hq; clear hb)
        go_roundw
        case rel => exact ⟨2, by omega, by go_num, Lib.hid (by exact ⟨fun _ => H0.out.1 (by omega), fun _ => HY.out, fun h => absurd h (by omega)⟩), HB, HS, HX⟩
        case measure => simp [intOf]
    · have HE8 := Lib.hid (fun h => HED.out (H0.out.1 (by omega)) (H0.out.2.1 (by omega)) h)
      clear HEX HEY HED HER CX CY
      have hc9 := CD.out
      by_cases hy : listErr ss.length ds = 0
      case neg =>
        have e0 : (listErr ss.length ds != 0) = true := by simpa using hy
        have HE := Lib.hid (HE8.out hy)
        generalize listErr ss.length ds = y at *
        have C9 := Lib.hid hc9
        clear hc9 HE2 HE3 HE4 hy
        go_wp2_with (go_at_call 34; refine Calls.mono (C9.out _ (HF.out.ext (HX.out.trans (by repeat first | exact zx0 _ | assumption | refine zxa ?_ _ | refine zxd ?_ | refine zxn ?_ _ | refine zxs ?_ (by simp <;> omega) _ | refine zxt ?_ (by assumption)))) (HRD.out.ext (HX.out.trans (by repeat first | exact zx0 _ | assumption | refine zxa ?_ _ | refine zxd ?_ | refine zxn ?_ _ | refine zxs ?_ (by simp <;> omega) _ | refine zxt ?_ (by assumption))))) ?_; rintro e9 w1 ⟨rfl, hb⟩; have hq := zxx HX.out (by repeat first | exact zx0 _ | assumption | refine zxa ?_ _ | refine zxd ?_ | refine zxn ?_ _ | refine zxs ?_ (by simp <;> omega) _ | refine zxt ?_ (by assumption)) hb; have HB9 := Lib.hid (HB.out.ext hq); have HS9 := Lib.hid (HS.out.ext hq); have HX9 := Lib.hid (HX.out.trans hq); clear k0 k1 k2 kl m0 m1 m2 m3 ml HB HS HX; have HB := HB9; have HS := HS9; have HX := HX9; clear HB9 HS9 HX9; obtain ⟨k0, k1, k2, kl⟩ := HB.out.c3; obtain ⟨m0, m1, m2, m3, ml⟩ := HS.out.c4; clear hq; clear hb)
        go_ret
        exact Ret.mk' (by rw [HE.out]; rfl) (HX.out.trans (by repeat first | exact zx0 _ | assumption | refine zxa ?_ _ | refine zxd ?_ | refine zxn ?_ _ | refine zxs ?_ (by simp <;> omega) _ | refine zxt ?_ (by assumption)))
      case pos =>
        rw [hy] at hc9
        have C9 := Lib.hid hc9
        have HY := Lib.hid hy
        clear hc9 hy
        go_wp2_with (go_at_call 34; refine Calls.mono (C9.out _ (HF.out.ext (HX.out.trans (by repeat first | exact zx0 _ | assumption | refine zxa ?_ _ | refine zxd ?_ | refine zxn ?_ _ | refine zxs ?_ (by simp <;> omega) _ | refine zxt ?_ (by assumption)))) (HRD.out.ext (HX.out.trans (by repeat first | exact zx0 _ | assumption | refine zxa ?_ _ | refine zxd ?_ | refine zxn ?_ _ | refine zxs ?_ (by simp <;> omega) _ | refine zxt ?_ (by assumption))))) ?_; rintro e9 w1 ⟨rfl, hb⟩; have hq := zxx HX.out (by repeat first | exact zx0 _ | assumption | refine zxa ?_ _ | refine zxd ?_ | refine zxn ?_ _ | refine zxs ?_ (by simp <;> omega) _ | refine zxt ?_ (by assumption)) hb; have HB9 := Lib.hid (HB.out.ext hq); have HS9 := Lib.hid (HS.out.ext hq); have HX9 := Lib.hid (HX.out.trans hq); clear k0 k1 k2 kl m0 m1 m2 m3 ml HB HS HX; have HB := HB9; have HS := HS9; have HX := HX9; clear HB9 HS9 HX9; obtain ⟨k0, k1, k2, kl⟩ := HB.out.c3; obtain ⟨m0, m1, m2, m3, ml⟩ := HS.out.c4; clear hq; clear hb)
        go_roundw
        case rel => exact ⟨3, by omega, by go_num, Lib.hid (by exact ⟨fun _ => H0.out.1 (by omega), fun _ => H0.out.2.1 (by omega), fun _ => HY.out⟩), HB, HS, HX⟩
        case measure => simp [intOf]
    · have hr := HER.out (H0.out.1 (by omega)) (H0.out.2.1 (by omega)) (H0.out.2.2 (by omega))
      clear HE2 HE3 HE4
      have HE2 : Hid (¬ (1 ≤ ds.length ∧ ds.length ≤ 6) → V = 10) := Lib.hid fun h => by rw [hr, if_pos h]
      have HE3 : Hid ((1 ≤ ds.length ∧ ds.length ≤ 6) → ¬ (1 ≤ m ∧ m ≤ 1000000) → V = 2) := Lib.hid fun h h1 => by rw [hr, if_neg (by simpa using h), if_pos h1]
      have HE4 : Hid ((1 ≤ ds.length ∧ ds.length ≤ 6) → (1 ≤ m ∧ m ≤ 1000000) → V = 0) := Lib.hid fun h h1 => by rw [hr, if_neg (by simpa using h), if_neg (by simpa using h1)]
      clear HEX HEY HED HER CX CY CD hr H0
      by_cases h4 : 1 ≤ ds.length ∧ ds.length ≤ 6
      case neg =>
        have HE := Lib.hid (HE2.out h4)
        have CW := Lib.hid (fun W => bWithin_no (ds.length : Int) 1 6 W (by omega))
        clear h4 HE2 HE3 HE4
        skip
        go_wp2_with (go_at_call 40; refine Calls.mono (CW.out _) ?_; rintro e9 w2 ⟨rfl, rfl⟩)
        go_ret
        exact Ret.mk' (by rw [HE.out]; rfl) (HX.out.trans (by repeat first | exact zx0 _ | assumption | refine zxa ?_ _ | refine zxd ?_ | refine zxn ?_ _ | refine zxs ?_ (by simp <;> omega) _ | refine zxt ?_ (by assumption)))
      case pos =>
      have CW := Lib.hid (fun W => bWithin_yes (ds.length : Int) 1 6 W (by omega))
      by_cases h5 : 1 ≤ m ∧ m ≤ 1000000
      case neg =>
        have HE := Lib.hid (HE3.out h4 h5)
        have CV := Lib.hid (fun W => bWithin_no m 1 1000000 W h5)
        clear h4 h5 HE2 HE3 HE4
        skip
        go_upto_region 10 with (go_at_call 40; refine Calls.mono (CW.out _) ?_; rintro e9 w2 ⟨rfl, rfl⟩)
        go_wp2_with (go_at_call 40; refine Calls.mono (CV.out _) ?_; rintro e9 w2 ⟨rfl, rfl⟩)
        go_ret
        exact Ret.mk' (by rw [HE.out]; rfl) (HX.out.trans (by repeat first | exact zx0 _ | assumption | refine zxa ?_ _ | refine zxd ?_ | refine zxn ?_ _ | refine zxs ?_ (by simp <;> omega) _ | refine zxt ?_ (by assumption)))
      case pos =>
        have HE := Lib.hid (HE4.out h4 h5)
        have CV := Lib.hid (fun W => bWithin_yes m 1 1000000 W h5)
        clear h4 h5 HE2 HE3 HE4
        skip
        go_upto_region 10 with (go_at_call 40; refine Calls.mono (CW.out _) ?_; rintro e9 w2 ⟨rfl, rfl⟩)
        go_wp2_with (go_at_call 40; refine Calls.mono (CV.out _) ?_; rintro e9 w2 ⟨rfl, rfl⟩)
        go_ret
        exact Ret.mk' (by rw [HE.out]; rfl) (HX.out.trans (by repeat first | exact zx0 _ | assumption | refine zxa ?_ _ | refine zxd ?_ | refine zxn ?_ _ | refine zxs ?_ (by simp <;> omega) _ | refine zxt ?_ (by assumption)))
def smB (x : LD) : Bool := decide (x.xs.length ≤ 12) && decide (x.ys.length ≤ 12) && decide (x.ds.length ≤ 8) && (decide (x.m ≤ 6000) || decide (1000000 < x.m))
set_option maxRecDepth 100000 in
set_option maxHeartbeats 4000000 in
theorem small_any (x : LD) (w : World) : Calls Tryz.prog 10 #[x.val] w (Ret (.bool (smB x)) w) := by
  have HE : Hid (smB x = (decide (x.xs.length ≤ 12) && decide (x.ys.length ≤ 12) && decide (x.ds.length ≤ 8) && (decide (x.m ≤ 6000) || decide (1000000 < x.m)))) := Lib.hid rfl
  generalize smB x = V at *
  obtain ⟨X, cx, xs, Y, cy, ys, D, cd, ds, m⟩ := x
  simp only [LD.val] at *
  by_cases h1 : xs.length ≤ 12
  case neg =>
    have i1 : ¬ (xs.length : Int) ≤ 12 := by omega
    have HE1 : Hid (V = false) := Lib.hid (by rw [HE.out, decide_eq_false h1]; rfl)
    clear HE h1
    go_enter Tryz.func10, Tryz.ntmps10
    go_wp2
    go_ret
    exact Ret.mk' (by rw [HE1.out]; first | rfl | simp) (by repeat first | exact zx0 _ | assumption | refine zxa ?_ _ | refine zxd ?_ | refine zxn ?_ _ | refine zxs ?_ (by simp <;> omega) _ | refine zxt ?_ (by assumption))
  case pos =>
  have i1 : (xs.length : Int) ≤ 12 := by omega
  by_cases h2 : ys.length ≤ 12
  case neg =>
    have i2 : ¬ (ys.length : Int) ≤ 12 := by omega
    have HE1 : Hid (V = false) := Lib.hid (by rw [HE.out, decide_eq_false h2, Bool.and_false]; rfl)
    clear HE h1 h2
    go_enter Tryz.func10, Tryz.ntmps10
    go_wp2
    go_ret
    exact Ret.mk' (by rw [HE1.out]; first | rfl | simp) (by repeat first | exact zx0 _ | assumption | refine zxa ?_ _ | refine zxd ?_ | refine zxn ?_ _ | refine zxs ?_ (by simp <;> omega) _ | refine zxt ?_ (by assumption))
  case pos =>
  have i2 : (ys.length : Int) ≤ 12 := by omega
  by_cases h3 : ds.length ≤ 8
  case neg =>
    have i3 : ¬ (ds.length : Int) ≤ 8 := by omega
    have HE1 : Hid (V = false) := Lib.hid (by rw [HE.out, decide_eq_false h3, Bool.and_false]; rfl)
    clear HE h1 h2 h3
    go_enter Tryz.func10, Tryz.ntmps10
    go_wp2
    go_ret
    exact Ret.mk' (by rw [HE1.out]; first | rfl | simp) (by repeat first | exact zx0 _ | assumption | refine zxa ?_ _ | refine zxd ?_ | refine zxn ?_ _ | refine zxs ?_ (by simp <;> omega) _ | refine zxt ?_ (by assumption))
  case pos =>
  have i3 : (ds.length : Int) ≤ 8 := by omega
  have HE1 : Hid (V = (decide (m ≤ 6000) || decide (1000000 < m))) := Lib.hid (by rw [HE.out, decide_eq_true h1, decide_eq_true h2, decide_eq_true h3]; rfl)
  clear HE h1 h2 h3
  by_cases h4 : m ≤ 6000
  case pos =>
    have HE2 : Hid (V = true) := Lib.hid (by rw [HE1.out, decide_eq_true h4]; rfl)
    clear HE1
    go_enter Tryz.func10, Tryz.ntmps10
    go_wp2
    go_ret
    exact Ret.mk' (by rw [HE2.out]; first | rfl | simp) (by repeat first | exact zx0 _ | assumption | refine zxa ?_ _ | refine zxd ?_ | refine zxn ?_ _ | refine zxs ?_ (by simp <;> omega) _ | refine zxt ?_ (by assumption))
  case neg =>
    have HE2 : Hid (V = decide (1000000 < m)) := Lib.hid (by rw [HE1.out, decide_eq_false h4]; rfl)
    clear HE1
    go_enter Tryz.func10, Tryz.ntmps10
    go_wp2
    go_ret
    exact Ret.mk' (by rw [HE2.out]; first | rfl | simp) (by repeat first | exact zx0 _ | assumption | refine zxa ?_ _ | refine zxd ?_ | refine zxn ?_ _ | refine zxs ?_ (by simp <;> omega) _ | refine zxt ?_ (by assumption))
end Go.Proofs.YtffafbllgdonlaaGreatDoor
