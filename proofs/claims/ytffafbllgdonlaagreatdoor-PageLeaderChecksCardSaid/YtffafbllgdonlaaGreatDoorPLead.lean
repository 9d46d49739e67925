/-
  Walk: a line with leaders is accepted (page.CheckLeader).
-/
import Derived.Test.YtffafbllgdonlaaGreatDoorLdErr
import Derived.Test.YtffafbllgdonlaaGreatDoorPLdA
import Derived.Test.YtffafbllgdonlaaGreatDoorEqRep
import Derived.Test.YtffafbllgdonlaaGreatDoorRep2
import Derived.Test.YtffafbllgdonlaaGreatDoorRWith
import Derived.Test.YtffafbllgdonlaaGreatDoorSteadyR
import Derived.Laws.EntriesVeiled
namespace Go.Proofs.YtffafbllgdonlaaGreatDoor
open Go.RowKit
attribute [local go_sem ↓] Go.wp_at_zero Go.wp_at_succ
attribute [local go_sem] stateAt vu

theorem plGetD {l : List Int} {i : Nat} (h : i < l.length) : l.getD i 0 ∈ l := by
  rw [List.getD_eq_getElem?_getD, List.getElem?_eq_getElem h]; exact List.getElem_mem h
def mid0 (xs ys zs : List Int) : List Int := midL xs ys zs
theorem cont_all (p : Int → Bool) (l : List Int) : (idxOf (fun z => !p z) l l.length).isSome = !l.all p := by
  rw [Bool.eq_iff_iff, idxOf_isSome, Bool.not_eq_true', List.all_eq_false]
  constructor
  · rintro ⟨k, hk, h⟩
    refine ⟨l.getD k 0, plGetD hk, ?_⟩
    simpa using h
  · rintro ⟨x, hx, h⟩
    obtain ⟨k, hk, rfl⟩ := List.mem_iff_getElem.1 hx
    refine ⟨k, hk, ?_⟩
    rw [List.getD_eq_getElem?_getD, List.getElem?_eq_getElem hk]
    simpa using h
def plV (f : FT) (x : LD) (m0 : Int) (zs : List Int) : Int × Int := if (chk f).2 ≠ 0 then (0, (chk f).2) else lcE f.sorts x.xs x.ys x.ds x.m m0 zs
set_option maxRecDepth 100000 in
set_option maxHeartbeats 16000000 in
theorem pCheckLeader_any (f : FT) (A : Option Addr) (c : Nat) (x : LD) (m0 : Int) (Z : Option Addr) (cz : Nat) (zs : List Int) (w : World) (hf : FR w A c f) (hx : LDR w x) (hz : RI w Z zs.length zs) (hc : zs.length ≤ cz) (hl : zs.length ≤ 1000) :
    Calls Tryz.prog 11 #[f.val A c, x.val, .agg #[.int .i64 m0, .slice Z zs.length cz]] w (Ret (.tuple #[.int .i64 (plV f x m0 zs).1, .int .i64 (plV f x m0 zs).2]) w) := by
  have cF := fun W h => pFountE_any f A c W h
  have cL := fun h W h1 h2 => pLeaderErr_any f A c x W h1 h2 h
  have cS := fun B d W h1 h2 => sortsErr_any f A c B 1 d [⟨Z, cz, zs⟩] W h1 h2
  rw [sortsE_one] at cS
  have cW := fun W h1 h2 => pWidth_any f A c Z cz zs W h1 h2
  have HF := Lib.hid hf; have HL := Lib.hid hx; have HRX := Lib.hid hx.rx; have HRY := Lib.hid hx.ry; have HRD := Lib.hid hx.rd; have HRZ := Lib.hid hz
  have hbX := hx.rx.big; have hbY := hx.ry.big; have hbD := hx.rd.big
  have HV0 : Hid ((chk f).2 ≠ 0 → plV f x m0 zs = (0, (chk f).2)) := Lib.hid fun h => by unfold plV; rw [if_pos h]
  have HV1 : Hid ((chk f).2 = 0 → plV f x m0 zs = lcE f.sorts x.xs x.ys x.ds x.m m0 zs) := Lib.hid fun h => by unfold plV; rw [if_neg (by simpa using h)]
  have hls : (chk f).2 = 0 → listChk f zs = listErr f.sorts.length zs := fun h => by unfold listChk; rw [if_neg (by simpa using h)]
  have hww : listChk f zs = 0 → (widthR f zs).1 = widthTo f.sorts zs zs.length := fun h => by unfold widthR; rw [if_neg (by simpa using h)]
  have hrt := hf.rt
  clear hf hx hz
  generalize plV f x m0 zs = V at *
  obtain ⟨X, cx, xs, Y, cy, ys, D, cd, ds, m⟩ := x
  obtain ⟨name, body, ss⟩ := f
  simp only [LD.val, FT.val] at *
  have CF := Lib.hid cF; have HCL := Lib.hid cL; have CSE := Lib.hid cS; have CW := Lib.hid cW
  have HLS := Lib.hid hls; have HWW := Lib.hid hww; have HRT := Lib.hid hrt
  clear cF cL cS cW hls hww hrt
  generalize (chk ⟨name, body, ss⟩).2 = z1 at *
  generalize (widthR ⟨name, body, ss⟩ zs).1 = wd at *
  generalize listChk ⟨name, body, ss⟩ zs = z3 at *
  go_enter Tryz.func11, Tryz.ntmps11
  obtain ⟨wq, hwq⟩ : ∃ wq, ((w.alloc (.cells #[.string name, .int .i64 body, .slice A ss.length c] 24)).alloc (.cells #[.slice X xs.length cx, .slice Y ys.length cy, .slice D ds.length cd, .int .i64 m] 27)).alloc (.cells #[.int .i64 m0, .slice Z zs.length cz] 29) = wq := ⟨_, rfl⟩
  have HB : Hid (Blk wq w.heap.size 24 #[.string name, .int .i64 body, .slice A ss.length c]) := Lib.hid (by rw [← hwq]; exact ((Blk.new w _ _).alloc _).alloc _)
  have HS : Hid (Blk wq (w.heap.size + 1) 27 #[.slice X xs.length cx, .slice Y ys.length cy, .slice D ds.length cd, .int .i64 m]) := Lib.hid (by rw [← hwq]; exact (Blk.new1 w _ _ _).alloc _)
  have HT : Hid (Blk wq (w.heap.size + 1 + 1) 29 #[.int .i64 m0, .slice Z zs.length cz]) := Lib.hid (by rw [← hwq]; exact Blk.new2 w _ _ _ _)
  have HX : Hid (Ext w wq) := Lib.hid (by rw [← hwq]; exact (by repeat first | exact zx0 _ | assumption | refine zxa ?_ _ | refine zxd ?_ | refine zxn ?_ _ | refine zxs ?_ (by simp <;> omega) _ | refine zxt ?_ (by assumption)))
  go_upto_region 1 with fail
  (try rw [hwq])
  clear hwq
  obtain ⟨k0, k1, k2, kl⟩ := HB.out.c3; obtain ⟨m0_, m1, m2, m3, ml⟩ := HS.out.c4; obtain ⟨t0, t1, _, _, tl⟩ := HT.out.c2
  go_upto_region 2 with (go_at_call 48; refine Calls.mono (CF.out _ (HF.out.ext (HX.out.trans (by repeat first | exact zx0 _ | assumption | refine zxa ?_ _ | refine zxd ?_ | refine zxn ?_ _ | refine zxs ?_ (by simp <;> omega) _ | refine zxt ?_ (by assumption))))) ?_; rintro e9 w1 ⟨rfl, hb⟩; have hq := zxx HX.out (by repeat first | exact zx0 _ | assumption | refine zxa ?_ _ | refine zxd ?_ | refine zxn ?_ _ | refine zxs ?_ (by simp <;> omega) _ | refine zxt ?_ (by assumption)) hb; have HB9 := Lib.hid (HB.out.ext hq); have HS9 := Lib.hid (HS.out.ext hq); have HT9 := Lib.hid (HT.out.ext hq); have HX9 := Lib.hid (HX.out.trans hq); clear k0 k1 k2 kl m0_ m1 m2 m3 ml t0 t1 tl HB HS HT HX; have HB := HB9; have HS := HS9; have HT := HT9; have HX := HX9; clear HB9 HS9 HT9 HX9; obtain ⟨k0, k1, k2, kl⟩ := HB.out.c3; obtain ⟨m0_, m1, m2, m3, ml⟩ := HS.out.c4; obtain ⟨t0, t1, _, _, tl⟩ := HT.out.c2; (try (have q9 := Lib.hid (HQ.out.ext hq); clear HQ; have HQ := q9; clear q9)); clear hq; clear hb)
  -- STAGE S1
  by_cases h1 : z1 = 0
  case neg =>
    -- BEGIN L1
    have e0 : (z1 != 0) = true := by simpa using h1
    have HV := Lib.hid (HV0.out h1)
    clear HV0 HV1 HCL HLS HWW h1
    go_wp2
    go_ret2
    exact Ret.mk' (by rw [HV.out]; rfl) (HX.out.trans (by repeat first | exact zx0 _ | assumption | refine zxa ?_ _ | refine zxd ?_ | refine zxn ?_ _ | refine zxs ?_ (by simp <;> omega) _ | refine zxt ?_ (by assumption)))
    -- END L1
  case pos =>
  have hV := HV1.out h1
  have CL := Lib.hid (HCL.out h1)
  have h3 := HLS.out h1
  clear HV0 HV1 HCL HLS
  subst h1 h3
  unfold lcE at hV
  generalize hE : ldErr ss.length xs ys ds m = z2 at *
  go_upto_region 5 with (go_at_call 49; refine Calls.mono (CL.out _ (HF.out.ext (HX.out.trans (by repeat first | exact zx0 _ | assumption | refine zxa ?_ _ | refine zxd ?_ | refine zxn ?_ _ | refine zxs ?_ (by simp <;> omega) _ | refine zxt ?_ (by assumption)))) (HL.out.ext (HX.out.trans (by repeat first | exact zx0 _ | assumption | refine zxa ?_ _ | refine zxd ?_ | refine zxn ?_ _ | refine zxs ?_ (by simp <;> omega) _ | refine zxt ?_ (by assumption))))) ?_; rintro e9 w1 ⟨rfl, hb⟩; have hq := zxx HX.out (by repeat first | exact zx0 _ | assumption | refine zxa ?_ _ | refine zxd ?_ | refine zxn ?_ _ | refine zxs ?_ (by simp <;> omega) _ | refine zxt ?_ (by assumption)) hb; have HB9 := Lib.hid (HB.out.ext hq); have HS9 := Lib.hid (HS.out.ext hq); have HT9 := Lib.hid (HT.out.ext hq); have HX9 := Lib.hid (HX.out.trans hq); clear k0 k1 k2 kl m0_ m1 m2 m3 ml t0 t1 tl HB HS HT HX; have HB := HB9; have HS := HS9; have HT := HT9; have HX := HX9; clear HB9 HS9 HT9 HX9; obtain ⟨k0, k1, k2, kl⟩ := HB.out.c3; obtain ⟨m0_, m1, m2, m3, ml⟩ := HS.out.c4; obtain ⟨t0, t1, _, _, tl⟩ := HT.out.c2; (try (have q9 := Lib.hid (HQ.out.ext hq); clear HQ; have HQ := q9; clear q9)); clear hq; clear hb)
  -- STAGE S2
  by_cases h2 : z2 = 0
  case neg =>
    -- BEGIN L2
    have e0 : (z2 != 0) = true := by simpa using h2
    rw [if_pos h2] at hV
    have HV := Lib.hid hV
    clear hV HWW h2 hE
    go_wp2
    go_ret2
    exact Ret.mk' (by rw [HV.out]; rfl) (HX.out.trans (by repeat first | exact zx0 _ | assumption | refine zxa ?_ _ | refine zxd ?_ | refine zxn ?_ _ | refine zxs ?_ (by simp <;> omega) _ | refine zxt ?_ (by assumption)))
    -- END L2
  case pos =>
  rw [if_neg (by simpa using h2)] at hV
  obtain ⟨q1, q2, q3, ⟨hd1, hd2⟩, hm1, hm2⟩ := ldErr_zero (hE.trans h2)
  have hgx := (listErr_zero q1).1; have hgy := (listErr_zero q2).1
  clear q1 q2 q3 hE CL
  subst h2
  generalize hE : listErr ss.length zs = z3 at *
  go_upto_region 8 with (go_at_call 50; refine Calls.mono (CSE.out _ _ _ (HF.out.ext (HX.out.trans (by repeat first | exact zx0 _ | assumption | refine zxa ?_ _ | refine zxd ?_ | refine zxn ?_ _ | refine zxs ?_ (by simp <;> omega) _ | refine zxt ?_ (by assumption)))) (RL.one (Blk.new _ _ _) (HRZ.out.ext (HX.out.trans (by repeat first | exact zx0 _ | assumption | refine zxa ?_ _ | refine zxd ?_ | refine zxn ?_ _ | refine zxs ?_ (by simp <;> omega) _ | refine zxt ?_ (by assumption)))))) ?_; rintro e9 w1 ⟨rfl, hb⟩; have hq := zxx HX.out (by repeat first | exact zx0 _ | assumption | refine zxa ?_ _ | refine zxd ?_ | refine zxn ?_ _ | refine zxs ?_ (by simp <;> omega) _ | refine zxt ?_ (by assumption)) hb; have HB9 := Lib.hid (HB.out.ext hq); have HS9 := Lib.hid (HS.out.ext hq); have HT9 := Lib.hid (HT.out.ext hq); have HX9 := Lib.hid (HX.out.trans hq); clear k0 k1 k2 kl m0_ m1 m2 m3 ml t0 t1 tl HB HS HT HX; have HB := HB9; have HS := HS9; have HT := HT9; have HX := HX9; clear HB9 HS9 HT9 HX9; obtain ⟨k0, k1, k2, kl⟩ := HB.out.c3; obtain ⟨m0_, m1, m2, m3, ml⟩ := HS.out.c4; obtain ⟨t0, t1, _, _, tl⟩ := HT.out.c2; (try (have q9 := Lib.hid (HQ.out.ext hq); clear HQ; have HQ := q9; clear q9)); clear hq; clear hb)
  -- STAGE S3
  by_cases h3 : z3 = 0
  case neg =>
    -- BEGIN L3
    have e0 : (z3 != 0) = true := by simpa using h3
    rw [if_pos h3] at hV
    have HV := Lib.hid hV
    clear hV HWW h3 hE
    go_wp2
    go_ret2
    exact Ret.mk' (by rw [HV.out]; rfl) (HX.out.trans (by repeat first | exact zx0 _ | assumption | refine zxa ?_ _ | refine zxd ?_ | refine zxn ?_ _ | refine zxs ?_ (by simp <;> omega) _ | refine zxt ?_ (by assumption)))
    -- END L3
  case pos =>
  rw [if_neg (by simpa using h3)] at hV
  have HIX := Lib.hid (listErr_zero (hE.trans h3)).2
  have hwd := HWW.out h3
  clear hE CSE HWW
  subst h3
  unfold lcR at hV
  rw [← hwd] at hV
  -- STAGE S4
  by_cases h4 : m0 = m
  case neg =>
    -- BEGIN L4
    rw [if_pos (.inl h4)] at hV
    have e0 : (m0 != m) = true := by simpa using h4
    have HV := Lib.hid hV
    clear hV h4 hwd
    go_wp2
    go_quiet (fail)
    go_wp2
    go_ret2
    exact Ret.mk' (by rw [HV.out]; rfl) (HX.out.trans (by repeat first | exact zx0 _ | assumption | refine zxa ?_ _ | refine zxd ?_ | refine zxn ?_ _ | refine zxs ?_ (by simp <;> omega) _ | refine zxt ?_ (by assumption)))
    -- END L4
  case pos =>
  have e4 : (m0 != m) = false := by simpa using h4
  by_cases h5 : wd = m
  case neg =>
    -- BEGIN L5
    rw [if_pos (.inr h5)] at hV
    have e0 : (wd != m) = true := by simpa using h5
    have HV := Lib.hid hV
    clear hV h5 hwd h4
    go_upto_region 10 with fail
    go_region_held3 (fun W => (W.cell? ⟨w.heap.size, 0, none⟩ = some (.string name) ∧ W.cell? ⟨w.heap.size, 1, none⟩ = some (.int .i64 body) ∧ W.cell? ⟨w.heap.size, 2, none⟩ = some (.slice A ss.length c)) ∧ (W.cell? ⟨w.heap.size + 1, 0, none⟩ = some (.slice X xs.length cx) ∧ W.cell? ⟨w.heap.size + 1, 1, none⟩ = some (.slice Y ys.length cy) ∧ W.cell? ⟨w.heap.size + 1, 2, none⟩ = some (.slice D ds.length cd) ∧ W.cell? ⟨w.heap.size + 1, 3, none⟩ = some (.int .i64 m)) ∧ (W.cell? ⟨w.heap.size + 1 + 1, 0, none⟩ = some (.int .i64 m0) ∧ W.cell? ⟨w.heap.size + 1 + 1, 1, none⟩ = some (.slice Z zs.length cz)) ∧ w.heap.size + 1 + 1 < W.heap.size) (first | exact ⟨⟨k0, k1, k2⟩, ⟨m0_, m1, m2, m3⟩, ⟨t0, t1⟩, tl⟩ | go_keep) (first | (go_at_call 51; refine Calls.mono (CW.out _ (HF.out.ext (HX.out.trans (by repeat first | exact zx0 _ | assumption | refine zxa ?_ _ | refine zxd ?_ | refine zxn ?_ _ | refine zxs ?_ (by simp <;> omega) _ | refine zxt ?_ (by assumption)))) (HRZ.out.ext (HX.out.trans (by repeat first | exact zx0 _ | assumption | refine zxa ?_ _ | refine zxd ?_ | refine zxn ?_ _ | refine zxs ?_ (by simp <;> omega) _ | refine zxt ?_ (by assumption))))) ?_; rintro e9 w1 ⟨rfl, hb⟩; have hq := zxx HX.out (by repeat first | exact zx0 _ | assumption | refine zxa ?_ _ | refine zxd ?_ | refine zxn ?_ _ | refine zxs ?_ (by simp <;> omega) _ | refine zxt ?_ (by assumption)) hb; have HB9 := Lib.hid (HB.out.ext hq); have HS9 := Lib.hid (HS.out.ext hq); have HT9 := Lib.hid (HT.out.ext hq); have HX9 := Lib.hid (HX.out.trans hq); clear k0 k1 k2 kl m0_ m1 m2 m3 ml t0 t1 tl HB HS HT HX; have HB := HB9; have HS := HS9; have HT := HT9; have HX := HX9; clear HB9 HS9 HT9 HX9; obtain ⟨k0, k1, k2, kl⟩ := HB.out.c3; obtain ⟨m0_, m1, m2, m3, ml⟩ := HS.out.c4; obtain ⟨t0, t1, _, _, tl⟩ := HT.out.c2; (try (have q9 := Lib.hid (HQ.out.ext hq); clear HQ; have HQ := q9; clear q9)); clear hq; clear hb))
    go_wp2
    go_ret2
    exact Ret.mk' (by rw [HV.out]; rfl) (HX.out.trans (by repeat first | exact zx0 _ | assumption | refine zxa ?_ _ | refine zxd ?_ | refine zxn ?_ _ | refine zxs ?_ (by simp <;> omega) _ | refine zxt ?_ (by assumption)))
    -- END L5
  case pos =>
  -- STAGE S5
  have hnz : 0 < zs.length := by
    rcases Nat.eq_zero_or_pos zs.length with h | h
    · rw [h] at hwd; unfold widthTo at hwd; rw [sumTo] at hwd; omega
    · exact h
  rw [if_neg (by rintro (h | h); exact h h4; exact h h5)] at hV
  have e5 : (wd != m) = false := by simpa using h5
  clear hwd h4 h5
  go_upto_region 10 with fail
  go_region_held3 (fun W => (W.cell? ⟨w.heap.size, 0, none⟩ = some (.string name) ∧ W.cell? ⟨w.heap.size, 1, none⟩ = some (.int .i64 body) ∧ W.cell? ⟨w.heap.size, 2, none⟩ = some (.slice A ss.length c)) ∧ (W.cell? ⟨w.heap.size + 1, 0, none⟩ = some (.slice X xs.length cx) ∧ W.cell? ⟨w.heap.size + 1, 1, none⟩ = some (.slice Y ys.length cy) ∧ W.cell? ⟨w.heap.size + 1, 2, none⟩ = some (.slice D ds.length cd) ∧ W.cell? ⟨w.heap.size + 1, 3, none⟩ = some (.int .i64 m)) ∧ (W.cell? ⟨w.heap.size + 1 + 1, 0, none⟩ = some (.int .i64 m0) ∧ W.cell? ⟨w.heap.size + 1 + 1, 1, none⟩ = some (.slice Z zs.length cz)) ∧ w.heap.size + 1 + 1 < W.heap.size) (first | exact ⟨⟨k0, k1, k2⟩, ⟨m0_, m1, m2, m3⟩, ⟨t0, t1⟩, tl⟩ | go_keep) (first | (go_at_call 51; refine Calls.mono (CW.out _ (HF.out.ext (HX.out.trans (by repeat first | exact zx0 _ | assumption | refine zxa ?_ _ | refine zxd ?_ | refine zxn ?_ _ | refine zxs ?_ (by simp <;> omega) _ | refine zxt ?_ (by assumption)))) (HRZ.out.ext (HX.out.trans (by repeat first | exact zx0 _ | assumption | refine zxa ?_ _ | refine zxd ?_ | refine zxn ?_ _ | refine zxs ?_ (by simp <;> omega) _ | refine zxt ?_ (by assumption))))) ?_; rintro e9 w1 ⟨rfl, hb⟩; have hq := zxx HX.out (by repeat first | exact zx0 _ | assumption | refine zxa ?_ _ | refine zxd ?_ | refine zxn ?_ _ | refine zxs ?_ (by simp <;> omega) _ | refine zxt ?_ (by assumption)) hb; have HB9 := Lib.hid (HB.out.ext hq); have HS9 := Lib.hid (HS.out.ext hq); have HT9 := Lib.hid (HT.out.ext hq); have HX9 := Lib.hid (HX.out.trans hq); clear k0 k1 k2 kl m0_ m1 m2 m3 ml t0 t1 tl HB HS HT HX; have HB := HB9; have HS := HS9; have HT := HT9; have HX := HX9; clear HB9 HS9 HT9 HX9; obtain ⟨k0, k1, k2, kl⟩ := HB.out.c3; obtain ⟨m0_, m1, m2, m3, ml⟩ := HS.out.c4; obtain ⟨t0, t1, _, _, tl⟩ := HT.out.c2; (try (have q9 := Lib.hid (HQ.out.ext hq); clear HQ; have HQ := q9; clear q9)); clear hq; clear hb))
  go_upto_region 13 with fail
  obtain ⟨zb, zo, hZ, hzw, _⟩ := HRZ.out.2.2 hnz
  subst hZ
  -- STAGE S6
  by_cases h6 : zs.length < xs.length + ys.length
  case pos =>
    -- BEGIN L6
    rw [if_pos (.inl h6)] at hV
    have e6 : (zs.length : Int) - (xs.length : Int) - (ys.length : Int) < 0 := by omega
    have HV := Lib.hid hV
    clear hV h6
    go_wp2
    go_quiet (fail)
    go_wp2
    go_ret2
    exact Ret.mk' (by rw [HV.out]; rfl) (HX.out.trans (by repeat first | exact zx0 _ | assumption | refine zxa ?_ _ | refine zxd ?_ | refine zxn ?_ _ | refine zxs ?_ (by simp <;> omega) _ | refine zxt ?_ (by assumption)))
    -- END L6
  case neg =>
  obtain ⟨p, hp⟩ : ∃ p, p = zs.length - ys.length := ⟨_, rfl⟩
  obtain ⟨sz, hsz⟩ : ∃ sz, sz = p - xs.length := ⟨_, rfl⟩
  have hsi : (zs.length : Int) - (xs.length : Int) - (ys.length : Int) = (sz : Int) := by omega
  rw [hsi]
  have e6 : ¬ (sz : Int) < 0 := by omega
  have hw1 : IntKind.i64.wrap ((zs.length : Int) - (ys.length : Int)) = (p : Int) := by rw [IntWalk.i64_in _ (by omega)]; omega
  have hpi : (zs.length : Int) - (ys.length : Int) = (p : Int) := by omega
  have hai : (xs.length : Int) + (sz : Int) = (p : Int) := by omega
  have b1 : (xs.length : Int) ≤ (cz : Int) := by omega
  have b2 : (0 : Int) ≤ (xs.length : Int) := by omega
  have b3 : (0 : Int) ≤ (p : Int) := by omega
  have b4 : (p : Int) ≤ (zs.length : Int) := by omega
  have b5 : (zs.length : Int) ≤ (cz : Int) := by omega
  have b6 : (xs.length : Int) ≤ (p : Int) := by omega
  have b7 : (p : Int) ≤ (cz : Int) := by omega
  have hpn : p ≤ zs.length := by omega
  have hap : xs.length ≤ p := by omega
  have hmid : midL xs ys zs = (zs.take p).drop xs.length := by unfold midL; rw [hp]
  have hml : (midL xs ys zs).length = sz := by rw [hmid, List.length_drop, List.length_take]; omega
  have HTK := Lib.hid (Cut.RI.take HRZ.out hzw xs.length (by omega))
  have HDR : Hid (RI w (if cz = p then some ⟨zb, zo, none⟩ else some ⟨zb, zo + p, none⟩) (zs.length - p) (zs.drop p)) := Lib.hid (by
    by_cases h : cz = p
    · exact ⟨List.length_drop, by omega, fun h1 => absurd h1 (by omega)⟩
    · rw [if_neg h]; exact Cut.RI.drop HRZ.out hzw p hpn)
  have hmd : RI w (if cz = xs.length then some ⟨zb, zo, none⟩ else some ⟨zb, zo + xs.length, none⟩) sz (midL xs ys zs) := by
    by_cases h : cz = xs.length
    · exact ⟨hml, by omega, fun h1 => absurd h1 (by omega)⟩
    · rw [if_neg h, hmid, hsz]; exact Cut.RI.drop (Cut.RI.take HRZ.out hzw p hpn) hzw xs.length hap
  obtain ⟨mo, hmo⟩ : ∃ mo, (if cz = xs.length then some ⟨zb, zo, none⟩ else some ⟨zb, zo + xs.length, none⟩ : Option Addr) = some ⟨zb, mo, none⟩ := by
    by_cases h : cz = xs.length
    · exact ⟨zo, by rw [if_pos h]⟩
    · exact ⟨zo + xs.length, by rw [if_neg h]⟩
  rw [hmo] at hmd
  have HMD := Lib.hid hmd
  have HMO := Lib.hid hmo
  have cE1 := fun W h1 h2 => equalN_any (some ⟨zb, zo, none⟩) X cz cx xs.length xs.length (zs.take xs.length) xs W h1 h2
  have cE2 := fun W h1 h2 => equalN_any (if cz = p then some ⟨zb, zo, none⟩ else some ⟨zb, zo + p, none⟩) Y (cz - p) cy (zs.length - p) ys.length (zs.drop p) ys W h1 h2
  rw [← hp, hml] at hV
  have hmz := HMD.out.len
  have HMR : Hid (∀ z ∈ mid0 xs ys zs, 0 ≤ z ∧ z < (ss.length : Int)) := Lib.hid fun z hz => by
    unfold mid0 midL at hz
    obtain ⟨i, hi, rfl⟩ := List.mem_iff_getElem.1 (List.mem_of_mem_take (List.mem_of_mem_drop hz))
    have := HIX.out i hi
    rw [List.getD_eq_getElem?_getD, List.getElem?_eq_getElem hi] at this
    exact this
  unfold mid0 at HMR
  have HPS : Hid (p - xs.length = sz ∧ xs.length ≤ p ∧ p ≤ zs.length) := Lib.hid ⟨hsz.symm, hap, hpn⟩
  clear hmid hml hmd hmo hpn hap hp hsz
  generalize midL xs ys zs = mid at *
  generalize zs.take xs.length = tk at *
  generalize zs.drop p = dr at *
  -- STAGE S7
  by_cases h7 : tk = xs
  case neg =>
    -- BEGIN L7
    rw [if_pos (.inr (.inl h7))] at hV
    simp only [decide_eq_false h7] at cE1
    have CE1 := Lib.hid cE1; have HV := Lib.hid hV
    clear hV h7 h6 cE1 cE2 hsi
    go_quiet ((go_at_call 52; first | (with_reducible exact SameN.quiet (CE1.out _ (HTK.out.ext (HX.out.trans (by repeat first | exact zx0 _ | assumption | refine zxa ?_ _ | refine zxd ?_ | refine zxn ?_ _ | refine zxs ?_ (by simp <;> omega) _ | refine zxt ?_ (by assumption)))) (HRX.out.ext (HX.out.trans (by repeat first | exact zx0 _ | assumption | refine zxa ?_ _ | refine zxd ?_ | refine zxn ?_ _ | refine zxs ?_ (by simp <;> omega) _ | refine zxt ?_ (by assumption)))))) | (with_reducible exact SameN.quiet (CE2.out _ (HDR.out.ext (HX.out.trans (by repeat first | exact zx0 _ | assumption | refine zxa ?_ _ | refine zxd ?_ | refine zxn ?_ _ | refine zxs ?_ (by simp <;> omega) _ | refine zxt ?_ (by assumption)))) (HRY.out.ext (HX.out.trans (by repeat first | exact zx0 _ | assumption | refine zxa ?_ _ | refine zxd ?_ | refine zxn ?_ _ | refine zxs ?_ (by simp <;> omega) _ | refine zxt ?_ (by assumption))))))))
    go_wp2
    go_ret2
    exact Ret.mk' (by rw [HV.out]; rfl) (HX.out.trans (by repeat first | exact zx0 _ | assumption | refine zxa ?_ _ | refine zxd ?_ | refine zxn ?_ _ | refine zxs ?_ (by simp <;> omega) _ | refine zxt ?_ (by assumption)))
    -- END L7
  case pos =>
  simp only [decide_eq_true h7] at cE1
  have CE1 := Lib.hid cE1
  by_cases h8 : dr = ys
  case neg =>
    -- BEGIN L8
    rw [if_pos (.inr (.inr h8))] at hV
    simp only [decide_eq_false h8] at cE2
    have CE2 := Lib.hid cE2; have HV := Lib.hid hV
    clear hV h7 h8 h6 cE1 cE2 hsi
    go_quiet ((go_at_call 52; first | (with_reducible exact SameN.quiet (CE1.out _ (HTK.out.ext (HX.out.trans (by repeat first | exact zx0 _ | assumption | refine zxa ?_ _ | refine zxd ?_ | refine zxn ?_ _ | refine zxs ?_ (by simp <;> omega) _ | refine zxt ?_ (by assumption)))) (HRX.out.ext (HX.out.trans (by repeat first | exact zx0 _ | assumption | refine zxa ?_ _ | refine zxd ?_ | refine zxn ?_ _ | refine zxs ?_ (by simp <;> omega) _ | refine zxt ?_ (by assumption)))))) | (with_reducible exact SameN.quiet (CE2.out _ (HDR.out.ext (HX.out.trans (by repeat first | exact zx0 _ | assumption | refine zxa ?_ _ | refine zxd ?_ | refine zxn ?_ _ | refine zxs ?_ (by simp <;> omega) _ | refine zxt ?_ (by assumption)))) (HRY.out.ext (HX.out.trans (by repeat first | exact zx0 _ | assumption | refine zxa ?_ _ | refine zxd ?_ | refine zxn ?_ _ | refine zxs ?_ (by simp <;> omega) _ | refine zxt ?_ (by assumption))))))))
    clear CE1 CE2 HTK HDR HRX HRY
    generalize (if cz = p then (some ⟨zb, zo, none⟩ : Option Addr) else some ⟨zb, zo + p, none⟩) = DA
    go_wp2
    go_ret2
    exact Ret.mk' (by rw [HV.out]; rfl) (HX.out.trans (by repeat first | exact zx0 _ | assumption | refine zxa ?_ _ | refine zxd ?_ | refine zxn ?_ _ | refine zxs ?_ (by simp <;> omega) _ | refine zxt ?_ (by assumption)))
    -- END L8
  case pos =>
  simp only [decide_eq_true h8] at cE2
  have CE2 := Lib.hid cE2
  rw [if_neg (by rintro (h | h | h); exact h6 h; exact h h7; exact h h8)] at hV
  -- STAGE S8
  clear h7 h8 h6 cE1 cE2 hsi
  go_quiet ((go_at_call 52; first | (with_reducible exact SameN.quiet (CE1.out _ (HTK.out.ext (HX.out.trans (by repeat first | exact zx0 _ | assumption | refine zxa ?_ _ | refine zxd ?_ | refine zxn ?_ _ | refine zxs ?_ (by simp <;> omega) _ | refine zxt ?_ (by assumption)))) (HRX.out.ext (HX.out.trans (by repeat first | exact zx0 _ | assumption | refine zxa ?_ _ | refine zxd ?_ | refine zxn ?_ _ | refine zxs ?_ (by simp <;> omega) _ | refine zxt ?_ (by assumption)))))) | (with_reducible exact SameN.quiet (CE2.out _ (HDR.out.ext (HX.out.trans (by repeat first | exact zx0 _ | assumption | refine zxa ?_ _ | refine zxd ?_ | refine zxn ?_ _ | refine zxs ?_ (by simp <;> omega) _ | refine zxt ?_ (by assumption)))) (HRY.out.ext (HX.out.trans (by repeat first | exact zx0 _ | assumption | refine zxa ?_ _ | refine zxd ?_ | refine zxn ?_ _ | refine zxs ?_ (by simp <;> omega) _ | refine zxt ?_ (by assumption))))))))
  clear CE1 CE2 HTK HDR HRX HRY
  generalize (if cz = p then (some ⟨zb, zo, none⟩ : Option Addr) else some ⟨zb, zo + p, none⟩) = DA
  go_upto_region 16 with fail
  rw [HMO.out]
  have hbz := HRZ.out.big
  clear HMO HRZ
  obtain ⟨K, hK⟩ : ∃ K, K = sz / ds.length := ⟨_, rfl⟩
  have hKl : K * ds.length ≤ sz := by rw [hK]; exact Nat.div_mul_le_self _ _
  have hKs : K ≤ sz := by rw [hK]; exact Nat.div_le_self _ _
  have jd : (sz : Int).tdiv (ds.length : Int) = (K : Int) := by rw [Int.tdiv_eq_ediv_of_nonneg (by omega), hK]; rfl
  have hsz1 : sz ≤ 1000 := by have := HPS.out; omega
  have hK9 : (K : Int) ≤ 1000 := by omega
  have jw : IntKind.i64.wrap (K : Int) = (K : Int) := IntWalk.i64_in _ (by clear hKl hK jd; omega)
  have jn : ((ds.length : Int) == 0) = false := beq_eq_false_iff_ne.2 (by omega)
  have HVS : Hid (∀ k, dnT (midB (spB ss) ds mid) (K + 1) = some k → V = ((k : Int), 0)) := Lib.hid fun k h => by rw [hV, ← hK, h]
  have HVN : Hid (dnT (midB (spB ss) ds mid) (K + 1) = none → V = (0, 3)) := Lib.hid fun h => by rw [hV, ← hK, h]
  have HP : Hid (∀ k, k ≤ K → midB (spB ss) ds mid k = (decide (mid.drop (sz - k * ds.length) = dotsTo ds k) && (mid.take (sz - k * ds.length)).all (spB ss))) := Lib.hid fun k hk => by
    have := mid_same (spB ss) (dots := ds) (mid := mid) (k := k) (by rw [hmz]; exact Nat.le_trans (Nat.mul_le_mul_right _ hk) hKl)
    rwa [hmz] at this
  have HKL := Lib.hid hKl
  have hpx := HPS.out.1
  have hcm : sz ≤ cz - xs.length := by have := HPS.out; omega
  obtain ⟨cm, hcmv⟩ : ∃ cm, cz - xs.length = cm := ⟨_, rfl⟩
  rw [hpx, hcmv]
  rw [hcmv] at hcm
  clear hV hK hKl hpx hcmv HPS
  generalize midB (spB ss) ds mid = P at *
  go_upto_block 17 with fail
  have HB1 := HB; have HS1 := HS; have HT1 := HT; have HX1 : Hid (Ext w (w1.drewN nq)) := Lib.hid (HX.out.trans (by repeat first | exact zx0 _ | assumption | refine zxa ?_ _ | refine zxd ?_ | refine zxn ?_ _ | refine zxs ?_ (by simp <;> omega) _ | refine zxt ?_ (by assumption)))
  clear k0 k1 k2 kl m0_ m1 m2 m3 ml t0 t1 tl HB HS HT HX
  go_loopw [13, 14, 15] (fun v _ _ wr => ∃ (k : Nat) (z : Int), k ≤ K + 1 ∧ z = (k : Int) - 1 ∧ v = .int .i64 z ∧ Hid (dnT P k = dnT P (K + 1)) ∧ Hid (Blk wr w.heap.size 24 #[.string name, .int .i64 body, .slice A ss.length c]) ∧ Hid (Blk wr (w.heap.size + 1) 27 #[.slice X xs.length cx, .slice Y ys.length cy, .slice D ds.length cd, .int .i64 m]) ∧ Hid (Blk wr (w.heap.size + 1 + 1) 29 #[.int .i64 m0, .slice (some ⟨zb, zo, none⟩) zs.length cz]) ∧ Hid (Ext w wr)) (fun v _ _ _ => (intOf v + 1).toNat)
  case atStart => exact ⟨K + 1, (K : Int), Nat.le_refl _, by omega, rfl, Lib.hid rfl, Lib.hid (HB1.out.drewN _), Lib.hid (HS1.out.drewN _), Lib.hid (HT1.out.drewN _), HX1⟩
  case round =>
    obtain ⟨k, z, hk, hz, rfl, HD, HB, HS, HT, HX⟩ := hrel
    clear HB1 HS1 HT1 HX1
    obtain ⟨k0, k1, k2, kl⟩ := HB.out.c3; obtain ⟨m0_, m1, m2, m3, ml⟩ := HS.out.c4; obtain ⟨t0, t1, _, _, tl⟩ := HT.out.c2
    rcases Nat.eq_zero_or_pos k with hk0 | hk0
    · -- BEGIN R0
      subst hk0
      have h9 : ¬ (0 ≤ z) := by omega
      have HV := Lib.hid (HVN.out HD.out.symm)
      go_wp2
      go_ret2
      exact Ret.mk' (by rw [HV.out]; rfl) (HX.out.trans (by repeat first | exact zx0 _ | assumption | refine zxa ?_ _ | refine zxd ?_ | refine zxn ?_ _ | refine zxs ?_ (by simp <;> omega) _ | refine zxt ?_ (by assumption)))
      -- END R0
    · obtain ⟨j, rfl⟩ : ∃ j, k = j + 1 := ⟨k - 1, by omega⟩
      have hz2 : z = (j : Int) := by omega
      clear hz hk0
      subst hz2
      have h9 : (0 : Int) ≤ (j : Int) := by omega
      have hq0 : j * ds.length ≤ sz := Nat.le_trans (Nat.mul_le_mul_right _ (by omega)) HKL.out
      have q1 : IntKind.i64.wrap ((j : Int) * (ds.length : Int)) = ((j * ds.length : Nat) : Int) := by rw [← Int.natCast_mul, IntWalk.i64_in _ (by omega)]
      have HPJ := Lib.hid (HP.out j (by omega))
      have CRP := Lib.hid (fun W h => repeat_any D cd ds.length j ds W h (by omega) (by omega) (by omega))
      obtain ⟨fr, hfr⟩ : ∃ fr, fr = sz - j * ds.length := ⟨_, rfl⟩
      rw [← hfr] at HPJ
      have hfl : ((sz : Int) - ((j * ds.length : Nat) : Int)) = (fr : Int) := by omega
      generalize j * ds.length = q at *
      have HFR : Hid (fr + q = sz) := Lib.hid (by omega)
      have hfz : fr ≤ sz := by omega
      clear hfr
      obtain ⟨FA, hFA⟩ : ∃ FA, (if cm = fr then some ⟨zb, mo, none⟩ else some ⟨zb, mo + fr, none⟩ : Option Addr) = FA := ⟨_, rfl⟩
      have HFD : Hid (RI w FA (sz - fr) (mid.drop fr)) := Lib.hid (by
        by_cases h : cm = fr
        · exact ⟨by rw [List.length_drop, hmz], by omega, fun h1 => absurd h1 (by omega)⟩
        · rw [← hFA, if_neg h]; exact Cut.RI.drop HMD.out hzw fr hfz)
      have HTF := Lib.hid (Cut.RI.take HMD.out hzw fr hfz)
      have cE3 := fun RA W h1 h2 => equal_any FA RA (cm - fr) q (sz - fr) q (mid.drop fr) (dotsTo ds j) W h1 h2
      have CCF : Hid (∀ W qb, W.cell? ⟨qb, 0, none⟩ = some (.func (.func 53) #[] #[.pointer (some ⟨w.heap.size, 0, none⟩)]) → qb < W.heap.size → W.cell? ⟨w.heap.size, 2, none⟩ = some (.slice A ss.length c) → w.heap.size < W.heap.size → Ext w W →
          Calls Tryz.prog 55 #[.slice (some ⟨zb, mo, none⟩) fr cm, .func (.func 56) #[] #[.pointer (some ⟨qb, 0, none⟩)]] W (Same (.bool (!(mid.take fr).all (spB ss))) W)) := Lib.hid fun W qb h1 h2 h3 h4 hx => by
        have hl : (mid.take fr).length = fr := by rw [List.length_take]; omega
        have := containsIn_any 56 #[.pointer (some ⟨qb, 0, none⟩)] (fun _ _ => by kernel_rfl) (fun z => !spB ss z) (some ⟨zb, mo, none⟩) fr cm (mid.take fr) W (HTF.out.ext hx) (fun k hk => by
          have hz := HMR.out _ (List.mem_of_mem_take (plGetD (l := mid.take fr) (i := k) (by omega)))
          exact notSp_any w.heap.size qb A c ss _ W h1 h2 h3 h4 (HRT.out.ext hx) hz.1 hz.2)
        have h9 := cont_all (spB ss) (mid.take fr)
        rw [hl] at h9
        rwa [h9] at this
      obtain ⟨d1, hd1⟩ : ∃ d1, decide (mid.drop fr = dotsTo ds j) = d1 := ⟨_, rfl⟩
      obtain ⟨d2, hd2⟩ : ∃ d2, (mid.take fr).all (spB ss) = d2 := ⟨_, rfl⟩
      rw [hd1] at cE3
      simp only [hd2] at CCF
      rw [hd1, hd2] at HPJ
      clear hd1 hd2 HTF HMR HP
      generalize mid.drop fr = md at *
      generalize dotsTo ds j = dj at *
      have CE3 := Lib.hid cE3
      clear cE3 HMD hmz
      have f1 : (0 : Int) ≤ (fr : Int) := by omega
      have f2 : (fr : Int) ≤ (sz : Int) := by omega
      have f3 : (sz : Int) ≤ (cm : Int) := by omega
      have f4 : (fr : Int) ≤ (cm : Int) := by omega
      go_upto_region 21 with fail
      obtain ⟨wq, hwq⟩ : ∃ wq, wr.alloc (.cells #[(.func (.func 53) #[] #[.pointer (some ⟨w.heap.size, 0, none⟩)])] 99) = wq := ⟨_, rfl⟩
      have HQ : Hid (Blk wq wr.heap.size 99 #[(.func (.func 53) #[] #[.pointer (some ⟨w.heap.size, 0, none⟩)])]) := Lib.hid (by rw [← hwq]; exact Blk.new wr _ _)
      have hq : Ext wr wq := by rw [← hwq]; exact (by repeat first | exact zx0 _ | assumption | refine zxa ?_ _ | refine zxd ?_ | refine zxn ?_ _ | refine zxs ?_ (by simp <;> omega) _ | refine zxt ?_ (by assumption))
      rw [hwq]
      have HB9 := Lib.hid (HB.out.ext hq); have HS9 := Lib.hid (HS.out.ext hq); have HT9 := Lib.hid (HT.out.ext hq); have HX9 := Lib.hid (HX.out.trans hq)
      clear k0 k1 k2 kl m0_ m1 m2 m3 ml t0 t1 tl HB HS HT HX hq hwq
      have HB := HB9; have HS := HS9; have HT := HT9; have HX := HX9
      clear HB9 HS9 HT9 HX9
      obtain ⟨k0, k1, k2, kl⟩ := HB.out.c3; obtain ⟨m0_, m1, m2, m3, ml⟩ := HS.out.c4; obtain ⟨t0, t1, _, _, tl⟩ := HT.out.c2
      obtain ⟨g0, _, gl⟩ := HQ.out.c1
      generalize wr.heap.size = qb at *
      cases d1
      case false =>
        -- BEGIN R1
        refine wp_region_rel [some (.slice (some ⟨zb, mo, none⟩) sz cm), some (.int .i64 (fr : Int)), some (.slice FA (sz - fr) (cm - fr)), some (.pointer (some ⟨w.heap.size + 1, 2, none⟩)), some (.slice D ds.length cd), some (.int .i64 (j : Int)), none, some (.bool false), some (.bool false), some undef, some undef, some undef, some undef, some undef, some undef, some (.bool false)] (fun k v W => (k = 6 → (fun v W => ∃ RA, v = .slice RA q q ∧ RI W RA q dj) v W)) wq (by kernel_rfl) (by kernel_rfl) rfl (fun k v W W' h hx => fun e => (h e).imp fun RA q => ⟨q.1, q.2.ext hx⟩) (Ext.refl _) ⟨?_, ?_, ?_, ?_, ?_, ?_, ?_, ?_, ?_, ?_, ?_, ?_, ?_, ?_, ?_, ?_, trivial⟩ ?_
        · intro U W hx hR
          clear hR
          refine StepZ.go rfl ?_
          go_simp
          exact ⟨(by repeat first | exact zx0 _ | assumption | refine zxa ?_ _ | refine zxd ?_ | refine zxn ?_ _ | refine zxs ?_ (by simp <;> omega) _ | refine zxt ?_ (by assumption)), gives_k (by kernel_rfl)⟩
        · intro U W hx hR
          clear hR
          refine StepZ.go rfl ?_
          go_simp
          exact ⟨(by repeat first | exact zx0 _ | assumption | refine zxa ?_ _ | refine zxd ?_ | refine zxn ?_ _ | refine zxs ?_ (by simp <;> omega) _ | refine zxt ?_ (by assumption)), gives_k (by kernel_rfl)⟩
        · intro U W hx hR
          clear hR
          refine StepZ.go rfl ?_
          go_simp
          exact ⟨(by repeat first | exact zx0 _ | assumption | refine zxa ?_ _ | refine zxd ?_ | refine zxn ?_ _ | refine zxs ?_ (by simp <;> omega) _ | refine zxt ?_ (by assumption)), by first | exact gives_k (by kernel_rfl) | (rw [hFA]; exact gives_k (by kernel_rfl))⟩
        · intro U W hx hR
          clear hR
          refine StepZ.go rfl ?_
          go_simp
          exact ⟨(by repeat first | exact zx0 _ | assumption | refine zxa ?_ _ | refine zxd ?_ | refine zxn ?_ _ | refine zxs ?_ (by simp <;> omega) _ | refine zxt ?_ (by assumption)), gives_k (by kernel_rfl)⟩
        · intro U W hx hR
          clear hR
          have c2 := (HS.out.ext hx).c4.2.2.1; have cl := (HS.out.ext hx).lt
          refine StepZ.go rfl ?_
          go_simp
          exact ⟨(by repeat first | exact zx0 _ | assumption | refine zxa ?_ _ | refine zxd ?_ | refine zxn ?_ _ | refine zxs ?_ (by simp <;> omega) _ | refine zxt ?_ (by assumption)), gives_k (by kernel_rfl)⟩
        · intro U W hx hR
          clear hR
          refine StepZ.go rfl ?_
          go_simp
          exact ⟨(by repeat first | exact zx0 _ | assumption | refine zxa ?_ _ | refine zxd ?_ | refine zxn ?_ _ | refine zxs ?_ (by simp <;> omega) _ | refine zxt ?_ (by assumption)), gives_k (by kernel_rfl)⟩
        · intro U W hx hR
          clear hR
          refine StepZ.go rfl ?_
          go_simp
          refine Calls.mono (CRP.out _ (HRD.out.ext (HX.out.trans hx))) ?_; rintro e w1 ⟨RA, rfl, hrp, hb⟩; exact ⟨_, rfl, hb, gives_e (by kernel_rfl) (fun _ => ⟨RA, rfl, hrp⟩)⟩
        · intro U W hx hR
          have r6 := (hR 6 (by decide) (by kernel_rfl)) rfl; obtain ⟨RA, e6_, hra⟩ := r6
          clear hR
          refine StepZ.go rfl ?_
          go_simp
          refine Calls.mono (CE3.out _ _ (HFD.out.ext (HX.out.trans hx)) hra) ?_; rintro e w1 ⟨rfl, hb⟩; exact ⟨_, rfl, hb, gives_k (by kernel_rfl)⟩
        · intro U W hx hR
          clear hR
          refine StepZ.go rfl ?_
          go_simp
          exact ⟨(by repeat first | exact zx0 _ | assumption | refine zxa ?_ _ | refine zxd ?_ | refine zxn ?_ _ | refine zxs ?_ (by simp <;> omega) _ | refine zxt ?_ (by assumption)), gives_k (by kernel_rfl)⟩
        · intro U W hx hR
          clear hR
          exact StepZ.off (by kernel_rfl) ⟨Ext.refl _, gives_k (by kernel_rfl)⟩
        · intro U W hx hR
          clear hR
          exact StepZ.off (by kernel_rfl) ⟨Ext.refl _, gives_k (by kernel_rfl)⟩
        · intro U W hx hR
          clear hR
          exact StepZ.off (by kernel_rfl) ⟨Ext.refl _, gives_k (by kernel_rfl)⟩
        · intro U W hx hR
          clear hR
          exact StepZ.off (by kernel_rfl) ⟨Ext.refl _, gives_k (by kernel_rfl)⟩
        · intro U W hx hR
          clear hR
          exact StepZ.off (by kernel_rfl) ⟨Ext.refl _, gives_k (by kernel_rfl)⟩
        · intro U W hx hR
          clear hR
          exact StepZ.off (by kernel_rfl) ⟨Ext.refl _, gives_k (by kernel_rfl)⟩
        · intro U W hx hR
          clear hR
          refine StepZ.go rfl ?_
          go_simp
          exact ⟨(by repeat first | exact zx0 _ | assumption | refine zxa ?_ _ | refine zxd ?_ | refine zxn ?_ _ | refine zxs ?_ (by simp <;> omega) _ | refine zxt ?_ (by assumption)), gives_k (by kernel_rfl)⟩
        · intro U W hx hR
          have r6 := (hR 6 (by decide) (by kernel_rfl)) rfl; obtain ⟨RA, e6_, hra⟩ := r6
          clear hR
          simp only [putAll, vu, Act.put, List.setIfInBounds_toArray, List.set_cons_zero, List.set_cons_succ]
          (try simp only [e6_])
          have HB2 := Lib.hid (HB.out.ext hx); have HS2 := Lib.hid (HS.out.ext hx); have HT2 := Lib.hid (HT.out.ext hx); have HX2 := Lib.hid (HX.out.trans hx)
          have HD2 : Hid (dnT P j = dnT P (K + 1)) := Lib.hid (by have h := HD.out; rw [dnT, HPJ.out] at h; exact h)
          clear HB HS HT HX hx HD HPJ
          go_wp2
          go_roundw
          case rel => exact ⟨j, (j : Int) - 1, by omega, rfl, by rfl, HD2, HB2, HS2, HT2, HX2⟩
          case measure => simp [intOf]
        -- END R1
      case true =>
      cases d2
      case false =>
        -- BEGIN R2
        refine wp_region_rel [some (.slice (some ⟨zb, mo, none⟩) sz cm), some (.int .i64 (fr : Int)), some (.slice FA (sz - fr) (cm - fr)), some (.pointer (some ⟨w.heap.size + 1, 2, none⟩)), some (.slice D ds.length cd), some (.int .i64 (j : Int)), none, some (.bool true), some (.bool true), some (.slice (some ⟨zb, mo, none⟩) sz cm), some (.int .i64 (fr : Int)), some (.slice (some ⟨zb, mo, none⟩) fr cm), some (.func (.func 56) #[] #[.pointer (some ⟨qb, 0, none⟩)]), some (.bool true), some (.bool false), some (.bool false)] (fun k v W => (k = 6 → (fun v W => ∃ RA, v = .slice RA q q ∧ RI W RA q dj) v W)) wq (by kernel_rfl) (by kernel_rfl) rfl (fun k v W W' h hx => fun e => (h e).imp fun RA q => ⟨q.1, q.2.ext hx⟩) (Ext.refl _) ⟨?_, ?_, ?_, ?_, ?_, ?_, ?_, ?_, ?_, ?_, ?_, ?_, ?_, ?_, ?_, ?_, trivial⟩ ?_
        · intro U W hx hR
          clear hR
          refine StepZ.go rfl ?_
          go_simp
          exact ⟨(by repeat first | exact zx0 _ | assumption | refine zxa ?_ _ | refine zxd ?_ | refine zxn ?_ _ | refine zxs ?_ (by simp <;> omega) _ | refine zxt ?_ (by assumption)), gives_k (by kernel_rfl)⟩
        · intro U W hx hR
          clear hR
          refine StepZ.go rfl ?_
          go_simp
          exact ⟨(by repeat first | exact zx0 _ | assumption | refine zxa ?_ _ | refine zxd ?_ | refine zxn ?_ _ | refine zxs ?_ (by simp <;> omega) _ | refine zxt ?_ (by assumption)), gives_k (by kernel_rfl)⟩
        · intro U W hx hR
          clear hR
          refine StepZ.go rfl ?_
          go_simp
          exact ⟨(by repeat first | exact zx0 _ | assumption | refine zxa ?_ _ | refine zxd ?_ | refine zxn ?_ _ | refine zxs ?_ (by simp <;> omega) _ | refine zxt ?_ (by assumption)), by first | exact gives_k (by kernel_rfl) | (rw [hFA]; exact gives_k (by kernel_rfl))⟩
        · intro U W hx hR
          clear hR
          refine StepZ.go rfl ?_
          go_simp
          exact ⟨(by repeat first | exact zx0 _ | assumption | refine zxa ?_ _ | refine zxd ?_ | refine zxn ?_ _ | refine zxs ?_ (by simp <;> omega) _ | refine zxt ?_ (by assumption)), gives_k (by kernel_rfl)⟩
        · intro U W hx hR
          clear hR
          have c2 := (HS.out.ext hx).c4.2.2.1; have cl := (HS.out.ext hx).lt
          refine StepZ.go rfl ?_
          go_simp
          exact ⟨(by repeat first | exact zx0 _ | assumption | refine zxa ?_ _ | refine zxd ?_ | refine zxn ?_ _ | refine zxs ?_ (by simp <;> omega) _ | refine zxt ?_ (by assumption)), gives_k (by kernel_rfl)⟩
        · intro U W hx hR
          clear hR
          refine StepZ.go rfl ?_
          go_simp
          exact ⟨(by repeat first | exact zx0 _ | assumption | refine zxa ?_ _ | refine zxd ?_ | refine zxn ?_ _ | refine zxs ?_ (by simp <;> omega) _ | refine zxt ?_ (by assumption)), gives_k (by kernel_rfl)⟩
        · intro U W hx hR
          clear hR
          refine StepZ.go rfl ?_
          go_simp
          refine Calls.mono (CRP.out _ (HRD.out.ext (HX.out.trans hx))) ?_; rintro e w1 ⟨RA, rfl, hrp, hb⟩; exact ⟨_, rfl, hb, gives_e (by kernel_rfl) (fun _ => ⟨RA, rfl, hrp⟩)⟩
        · intro U W hx hR
          have r6 := (hR 6 (by decide) (by kernel_rfl)) rfl; obtain ⟨RA, e6_, hra⟩ := r6
          clear hR
          refine StepZ.go rfl ?_
          go_simp
          refine Calls.mono (CE3.out _ _ (HFD.out.ext (HX.out.trans hx)) hra) ?_; rintro e w1 ⟨rfl, hb⟩; exact ⟨_, rfl, hb, gives_k (by kernel_rfl)⟩
        · intro U W hx hR
          clear hR
          refine StepZ.go rfl ?_
          go_simp
          exact ⟨(by repeat first | exact zx0 _ | assumption | refine zxa ?_ _ | refine zxd ?_ | refine zxn ?_ _ | refine zxs ?_ (by simp <;> omega) _ | refine zxt ?_ (by assumption)), gives_k (by kernel_rfl)⟩
        · intro U W hx hR
          clear hR
          refine StepZ.go (by kernel_rfl) ?_
          go_simp
          exact ⟨(by repeat first | exact zx0 _ | assumption | refine zxa ?_ _ | refine zxd ?_ | refine zxn ?_ _ | refine zxs ?_ (by simp <;> omega) _ | refine zxt ?_ (by assumption)), gives_k (by kernel_rfl)⟩
        · intro U W hx hR
          clear hR
          refine StepZ.go (by kernel_rfl) ?_
          go_simp
          exact ⟨(by repeat first | exact zx0 _ | assumption | refine zxa ?_ _ | refine zxd ?_ | refine zxn ?_ _ | refine zxs ?_ (by simp <;> omega) _ | refine zxt ?_ (by assumption)), gives_k (by kernel_rfl)⟩
        · intro U W hx hR
          clear hR
          refine StepZ.go (by kernel_rfl) ?_
          go_simp
          exact ⟨(by repeat first | exact zx0 _ | assumption | refine zxa ?_ _ | refine zxd ?_ | refine zxn ?_ _ | refine zxs ?_ (by simp <;> omega) _ | refine zxt ?_ (by assumption)), gives_k (by kernel_rfl)⟩
        · intro U W hx hR
          clear hR
          refine StepZ.go (by kernel_rfl) ?_
          go_simp
          exact ⟨(by repeat first | exact zx0 _ | assumption | refine zxa ?_ _ | refine zxd ?_ | refine zxn ?_ _ | refine zxs ?_ (by simp <;> omega) _ | refine zxt ?_ (by assumption)), gives_k (by kernel_rfl)⟩
        · intro U W hx hR
          clear hR
          refine StepZ.go (by kernel_rfl) ?_
          go_simp
          refine Calls.mono (CCF.out _ _ (HQ.out.ext hx).c1.1 (HQ.out.ext hx).lt (HB.out.ext hx).c3.2.2.1 (HB.out.ext hx).lt (HX.out.trans hx)) ?_; rintro e w1 ⟨rfl, rfl⟩; exact ⟨_, rfl, Ext.refl _, gives_k (by kernel_rfl)⟩
        · intro U W hx hR
          clear hR
          refine StepZ.go (by kernel_rfl) ?_
          go_simp
          exact ⟨(by repeat first | exact zx0 _ | assumption | refine zxa ?_ _ | refine zxd ?_ | refine zxn ?_ _ | refine zxs ?_ (by simp <;> omega) _ | refine zxt ?_ (by assumption)), gives_k (by kernel_rfl)⟩
        · intro U W hx hR
          clear hR
          refine StepZ.go rfl ?_
          go_simp
          exact ⟨(by repeat first | exact zx0 _ | assumption | refine zxa ?_ _ | refine zxd ?_ | refine zxn ?_ _ | refine zxs ?_ (by simp <;> omega) _ | refine zxt ?_ (by assumption)), gives_k (by kernel_rfl)⟩
        · intro U W hx hR
          have r6 := (hR 6 (by decide) (by kernel_rfl)) rfl; obtain ⟨RA, e6_, hra⟩ := r6
          clear hR
          simp only [putAll, vu, Act.put, List.setIfInBounds_toArray, List.set_cons_zero, List.set_cons_succ]
          (try simp only [e6_])
          have HB2 := Lib.hid (HB.out.ext hx); have HS2 := Lib.hid (HS.out.ext hx); have HT2 := Lib.hid (HT.out.ext hx); have HX2 := Lib.hid (HX.out.trans hx)
          have HD2 : Hid (dnT P j = dnT P (K + 1)) := Lib.hid (by have h := HD.out; rw [dnT, HPJ.out] at h; exact h)
          clear HB HS HT HX hx HD HPJ
          go_wp2
          go_roundw
          case rel => exact ⟨j, (j : Int) - 1, by omega, rfl, by rfl, HD2, HB2, HS2, HT2, HX2⟩
          case measure => simp [intOf]
        -- END R2
      case true =>
        -- BEGIN R3
        refine wp_region_rel [some (.slice (some ⟨zb, mo, none⟩) sz cm), some (.int .i64 (fr : Int)), some (.slice FA (sz - fr) (cm - fr)), some (.pointer (some ⟨w.heap.size + 1, 2, none⟩)), some (.slice D ds.length cd), some (.int .i64 (j : Int)), none, some (.bool true), some (.bool true), some (.slice (some ⟨zb, mo, none⟩) sz cm), some (.int .i64 (fr : Int)), some (.slice (some ⟨zb, mo, none⟩) fr cm), some (.func (.func 56) #[] #[.pointer (some ⟨qb, 0, none⟩)]), some (.bool false), some (.bool true), some (.bool true)] (fun k v W => (k = 6 → (fun v W => ∃ RA, v = .slice RA q q ∧ RI W RA q dj) v W)) wq (by kernel_rfl) (by kernel_rfl) rfl (fun k v W W' h hx => fun e => (h e).imp fun RA q => ⟨q.1, q.2.ext hx⟩) (Ext.refl _) ⟨?_, ?_, ?_, ?_, ?_, ?_, ?_, ?_, ?_, ?_, ?_, ?_, ?_, ?_, ?_, ?_, trivial⟩ ?_
        · intro U W hx hR
          clear hR
          refine StepZ.go rfl ?_
          go_simp
          exact ⟨(by repeat first | exact zx0 _ | assumption | refine zxa ?_ _ | refine zxd ?_ | refine zxn ?_ _ | refine zxs ?_ (by simp <;> omega) _ | refine zxt ?_ (by assumption)), gives_k (by kernel_rfl)⟩
        · intro U W hx hR
          clear hR
          refine StepZ.go rfl ?_
          go_simp
          exact ⟨(by repeat first | exact zx0 _ | assumption | refine zxa ?_ _ | refine zxd ?_ | refine zxn ?_ _ | refine zxs ?_ (by simp <;> omega) _ | refine zxt ?_ (by assumption)), gives_k (by kernel_rfl)⟩
        · intro U W hx hR
          clear hR
          refine StepZ.go rfl ?_
          go_simp
          exact ⟨(by repeat first | exact zx0 _ | assumption | refine zxa ?_ _ | refine zxd ?_ | refine zxn ?_ _ | refine zxs ?_ (by simp <;> omega) _ | refine zxt ?_ (by assumption)), by first | exact gives_k (by kernel_rfl) | (rw [hFA]; exact gives_k (by kernel_rfl))⟩
        · intro U W hx hR
          clear hR
          refine StepZ.go rfl ?_
          go_simp
          exact ⟨(by repeat first | exact zx0 _ | assumption | refine zxa ?_ _ | refine zxd ?_ | refine zxn ?_ _ | refine zxs ?_ (by simp <;> omega) _ | refine zxt ?_ (by assumption)), gives_k (by kernel_rfl)⟩
        · intro U W hx hR
          clear hR
          have c2 := (HS.out.ext hx).c4.2.2.1; have cl := (HS.out.ext hx).lt
          refine StepZ.go rfl ?_
          go_simp
          exact ⟨(by repeat first | exact zx0 _ | assumption | refine zxa ?_ _ | refine zxd ?_ | refine zxn ?_ _ | refine zxs ?_ (by simp <;> omega) _ | refine zxt ?_ (by assumption)), gives_k (by kernel_rfl)⟩
        · intro U W hx hR
          clear hR
          refine StepZ.go rfl ?_
          go_simp
          exact ⟨(by repeat first | exact zx0 _ | assumption | refine zxa ?_ _ | refine zxd ?_ | refine zxn ?_ _ | refine zxs ?_ (by simp <;> omega) _ | refine zxt ?_ (by assumption)), gives_k (by kernel_rfl)⟩
        · intro U W hx hR
          clear hR
          refine StepZ.go rfl ?_
          go_simp
          refine Calls.mono (CRP.out _ (HRD.out.ext (HX.out.trans hx))) ?_; rintro e w1 ⟨RA, rfl, hrp, hb⟩; exact ⟨_, rfl, hb, gives_e (by kernel_rfl) (fun _ => ⟨RA, rfl, hrp⟩)⟩
        · intro U W hx hR
          have r6 := (hR 6 (by decide) (by kernel_rfl)) rfl; obtain ⟨RA, e6_, hra⟩ := r6
          clear hR
          refine StepZ.go rfl ?_
          go_simp
          refine Calls.mono (CE3.out _ _ (HFD.out.ext (HX.out.trans hx)) hra) ?_; rintro e w1 ⟨rfl, hb⟩; exact ⟨_, rfl, hb, gives_k (by kernel_rfl)⟩
        · intro U W hx hR
          clear hR
          refine StepZ.go rfl ?_
          go_simp
          exact ⟨(by repeat first | exact zx0 _ | assumption | refine zxa ?_ _ | refine zxd ?_ | refine zxn ?_ _ | refine zxs ?_ (by simp <;> omega) _ | refine zxt ?_ (by assumption)), gives_k (by kernel_rfl)⟩
        · intro U W hx hR
          clear hR
          refine StepZ.go (by kernel_rfl) ?_
          go_simp
          exact ⟨(by repeat first | exact zx0 _ | assumption | refine zxa ?_ _ | refine zxd ?_ | refine zxn ?_ _ | refine zxs ?_ (by simp <;> omega) _ | refine zxt ?_ (by assumption)), gives_k (by kernel_rfl)⟩
        · intro U W hx hR
          clear hR
          refine StepZ.go (by kernel_rfl) ?_
          go_simp
          exact ⟨(by repeat first | exact zx0 _ | assumption | refine zxa ?_ _ | refine zxd ?_ | refine zxn ?_ _ | refine zxs ?_ (by simp <;> omega) _ | refine zxt ?_ (by assumption)), gives_k (by kernel_rfl)⟩
        · intro U W hx hR
          clear hR
          refine StepZ.go (by kernel_rfl) ?_
          go_simp
          exact ⟨(by repeat first | exact zx0 _ | assumption | refine zxa ?_ _ | refine zxd ?_ | refine zxn ?_ _ | refine zxs ?_ (by simp <;> omega) _ | refine zxt ?_ (by assumption)), gives_k (by kernel_rfl)⟩
        · intro U W hx hR
          clear hR
          refine StepZ.go (by kernel_rfl) ?_
          go_simp
          exact ⟨(by repeat first | exact zx0 _ | assumption | refine zxa ?_ _ | refine zxd ?_ | refine zxn ?_ _ | refine zxs ?_ (by simp <;> omega) _ | refine zxt ?_ (by assumption)), gives_k (by kernel_rfl)⟩
        · intro U W hx hR
          clear hR
          refine StepZ.go (by kernel_rfl) ?_
          go_simp
          refine Calls.mono (CCF.out _ _ (HQ.out.ext hx).c1.1 (HQ.out.ext hx).lt (HB.out.ext hx).c3.2.2.1 (HB.out.ext hx).lt (HX.out.trans hx)) ?_; rintro e w1 ⟨rfl, rfl⟩; exact ⟨_, rfl, Ext.refl _, gives_k (by kernel_rfl)⟩
        · intro U W hx hR
          clear hR
          refine StepZ.go (by kernel_rfl) ?_
          go_simp
          exact ⟨(by repeat first | exact zx0 _ | assumption | refine zxa ?_ _ | refine zxd ?_ | refine zxn ?_ _ | refine zxs ?_ (by simp <;> omega) _ | refine zxt ?_ (by assumption)), gives_k (by kernel_rfl)⟩
        · intro U W hx hR
          clear hR
          refine StepZ.go rfl ?_
          go_simp
          exact ⟨(by repeat first | exact zx0 _ | assumption | refine zxa ?_ _ | refine zxd ?_ | refine zxn ?_ _ | refine zxs ?_ (by simp <;> omega) _ | refine zxt ?_ (by assumption)), gives_k (by kernel_rfl)⟩
        · intro U W hx hR
          have r6 := (hR 6 (by decide) (by kernel_rfl)) rfl; obtain ⟨RA, e6_, hra⟩ := r6
          clear hR
          simp only [putAll, vu, Act.put, List.setIfInBounds_toArray, List.set_cons_zero, List.set_cons_succ]
          (try simp only [e6_])
          have HX2 := Lib.hid (HX.out.trans hx)
          have HV := Lib.hid (HVS.out j (by have h := HD.out; rw [dnT, HPJ.out] at h; exact h.symm))
          clear HB HS HT HX hx HD HPJ
          have HX := HX2
          go_wp2
          go_ret2
          exact Ret.mk' (by rw [HV.out]; rfl) (HX.out.trans (by repeat first | exact zx0 _ | assumption | refine zxa ?_ _ | refine zxd ?_ | refine zxn ?_ _ | refine zxs ?_ (by simp <;> omega) _ | refine zxt ?_ (by assumption)))
        -- END R3
end Go.Proofs.YtffafbllgdonlaaGreatDoor
