/-
  Walk: a line with leaders is accepted (the reference's CheckLeader).
-/
import Derived.Test.YtffafbllgdonlaaGreatDoorPLead
import Derived.Test.YtffafbllgdonlaaGreatDoorRIsSp
namespace Go.Proofs.YtffafbllgdonlaaGreatDoor
open Go.RowKit
attribute [local go_sem ↓] Go.wp_at_zero Go.wp_at_succ
attribute [local go_sem] stateAt vu

def okTo (T : Nat → Bool) (i : Nat) : Bool := (List.range i).all T
theorem okTo_next (T : Nat → Bool) (i : Nat) : okTo T (i + 1) = (okTo T i && T i) := by unfold okTo; rw [List.range_succ, List.all_append]; simp
def midT (sp : Int → Bool) (dots mid : List Int) (fr : Nat) (i : Nat) : Bool := if i < fr then sp (mid.getD i 0) else decide (mid.getD i 0 = dots.getD ((i - fr) % dots.length) 0)
theorem midB_ok (sp : Int → Bool) (dots mid : List Int) (k : Nat) : midB sp dots mid k = okTo (midT sp dots mid (mid.length - k * dots.length)) mid.length := rfl
set_option maxRecDepth 100000 in
set_option maxHeartbeats 16000000 in
theorem rCheckLeader_any (f : FT) (A : Option Addr) (c : Nat) (x : LD) (m0 : Int) (Z : Option Addr) (cz : Nat) (zs : List Int) (w : World) (hf : FR w A c f) (hx : LDR w x) (hz : RI w Z zs.length zs) (hc : zs.length ≤ cz) (hl : zs.length ≤ 1000) (hck : (chk f).2 = 0) :
    Calls Tryz.prog 16 #[f.val A c, x.val, .agg #[.int .i64 m0, .slice Z zs.length cz]] w (Ret (.tuple #[.int .i64 (lcE f.sorts x.xs x.ys x.ds x.m m0 zs).1, .int .i64 (lcE f.sorts x.xs x.ys x.ds x.m m0 zs).2]) w) := by
  have cL := fun W h1 h2 => rLeaderErr_any f A c x W h1 h2
  have cS := fun W h1 h2 => rListErr_any f A c Z cz zs W h1 h2
  have cW := fun hg W h1 h2 => rWidthOf_any f A c Z cz zs W h1 h2 hg hck
  have cI := fun j b hj hb W h => rIsSp_any f A c j b W h hj hb
  have HF := Lib.hid hf; have HL := Lib.hid hx; have HRX := Lib.hid hx.rx; have HRY := Lib.hid hx.ry; have HRD := Lib.hid hx.rd; have HRZ := Lib.hid hz
  have hbX := hx.rx.big; have hbY := hx.ry.big; have hbD := hx.rd.big
  have hV : lcE f.sorts x.xs x.ys x.ds x.m m0 zs = lcE f.sorts x.xs x.ys x.ds x.m m0 zs := rfl
  have hrt := hf.rt
  clear hf hx hz hck
  generalize hVe : lcE f.sorts x.xs x.ys x.ds x.m m0 zs = V at hV ⊢
  clear hV
  have hV := hVe.symm
  clear hVe
  obtain ⟨X, cx, xs, Y, cy, ys, D, cd, ds, m⟩ := x
  obtain ⟨name, body, ss⟩ := f
  simp only [LD.val, FT.val] at *
  have CL := Lib.hid cL; have CSE := Lib.hid cS; have HCW := Lib.hid cW; have HCI := Lib.hid cI
  have HRT := Lib.hid hrt
  clear cL cS cW hrt cI
  go_enter Tryz.func16, Tryz.ntmps16
  obtain ⟨wq, hwq⟩ : ∃ wq, ((w.alloc (.cells #[.string name, .int .i64 body, .slice A ss.length c] 24)).alloc (.cells #[.slice X xs.length cx, .slice Y ys.length cy, .slice D ds.length cd, .int .i64 m] 27)).alloc (.cells #[.int .i64 m0, .slice Z zs.length cz] 29) = wq := ⟨_, rfl⟩
  have HB : Hid (Blk wq w.heap.size 24 #[.string name, .int .i64 body, .slice A ss.length c]) := Lib.hid (by rw [← hwq]; exact ((Blk.new w _ _).alloc _).alloc _)
  have HS : Hid (Blk wq (w.heap.size + 1) 27 #[.slice X xs.length cx, .slice Y ys.length cy, .slice D ds.length cd, .int .i64 m]) := Lib.hid (by rw [← hwq]; exact (Blk.new1 w _ _ _).alloc _)
  have HT : Hid (Blk wq (w.heap.size + 1 + 1) 29 #[.int .i64 m0, .slice Z zs.length cz]) := Lib.hid (by rw [← hwq]; exact Blk.new2 w _ _ _ _)
  have HX : Hid (Ext w wq) := Lib.hid (by rw [← hwq]; exact (by repeat first | exact zx0 _ | assumption | refine zxa ?_ _ | refine zxd ?_ | refine zxn ?_ _ | refine zxs ?_ (by simp <;> omega) _ | refine zxt ?_ (by assumption)))
  go_upto_region 1 with fail
  (try rw [hwq])
  clear hwq
  obtain ⟨k0, k1, k2, kl⟩ := HB.out.c3; obtain ⟨m0_, m1, m2, m3, ml⟩ := HS.out.c4; obtain ⟨t0, t1, _, _, tl⟩ := HT.out.c2
  unfold lcE at hV
  generalize hE : ldErr ss.length xs ys ds m = z2 at *
  go_upto_region 2 with (go_at_call 58; refine Calls.mono (CL.out _ (HF.out.ext (HX.out.trans (by repeat first | exact zx0 _ | assumption | refine zxa ?_ _ | refine zxd ?_ | refine zxn ?_ _ | refine zxs ?_ (by simp <;> omega) _ | refine zxt ?_ (by assumption)))) (HL.out.ext (HX.out.trans (by repeat first | exact zx0 _ | assumption | refine zxa ?_ _ | refine zxd ?_ | refine zxn ?_ _ | refine zxs ?_ (by simp <;> omega) _ | refine zxt ?_ (by assumption))))) ?_; rintro e9 w1 ⟨rfl, hb⟩; have hq := zxx HX.out (by repeat first | exact zx0 _ | assumption | refine zxa ?_ _ | refine zxd ?_ | refine zxn ?_ _ | refine zxs ?_ (by simp <;> omega) _ | refine zxt ?_ (by assumption)) hb; have HB9 := Lib.hid (HB.out.ext hq); have HS9 := Lib.hid (HS.out.ext hq); have HT9 := Lib.hid (HT.out.ext hq); have HX9 := Lib.hid (HX.out.trans hq); clear k0 k1 k2 kl m0_ m1 m2 m3 ml t0 t1 tl HB HS HT HX; have HB := HB9; have HS := HS9; have HT := HT9; have HX := HX9; clear HB9 HS9 HT9 HX9; obtain ⟨k0, k1, k2, kl⟩ := HB.out.c3; obtain ⟨m0_, m1, m2, m3, ml⟩ := HS.out.c4; obtain ⟨t0, t1, _, _, tl⟩ := HT.out.c2; (try (have q9 := Lib.hid (HQ.out.ext hq); clear HQ; have HQ := q9; clear q9)); clear hq; clear hb)
  -- STAGE S2
  by_cases h2 : z2 = 0
  case neg =>
    -- BEGIN L2
    have e0 : (z2 != 0) = true := by simpa using h2
    rw [if_pos h2] at hV
    have HV := Lib.hid hV
    clear hV h2 hE
    go_wp2
    go_ret2
    exact Ret.mk' (by rw [HV.out]; rfl) (HX.out.trans (by repeat first | exact zx0 _ | assumption | refine zxa ?_ _ | refine zxd ?_ | refine zxn ?_ _ | refine zxs ?_ (by simp <;> omega) _ | refine zxt ?_ (by assumption)))
    -- END L2
  case pos =>
  rw [if_neg (by simpa using h2)] at hV
  obtain ⟨q1, q2, q3, ⟨hd1, hd2⟩, hm1, hm2⟩ := ldErr_zero (hE.trans h2)
  have hgx := (listErr_zero q1).1; have hgy := (listErr_zero q2).1
  clear q1 q2 q3 hE CL
  subst h2
  generalize hE : listErr ss.length zs = z3 at *
  go_upto_region 5 with (go_at_call 34; refine Calls.mono (CSE.out _ (HF.out.ext (HX.out.trans (by repeat first | exact zx0 _ | assumption | refine zxa ?_ _ | refine zxd ?_ | refine zxn ?_ _ | refine zxs ?_ (by simp <;> omega) _ | refine zxt ?_ (by assumption)))) (HRZ.out.ext (HX.out.trans (by repeat first | exact zx0 _ | assumption | refine zxa ?_ _ | refine zxd ?_ | refine zxn ?_ _ | refine zxs ?_ (by simp <;> omega) _ | refine zxt ?_ (by assumption))))) ?_; rintro e9 w1 ⟨rfl, hb⟩; have hq := zxx HX.out (by repeat first | exact zx0 _ | assumption | refine zxa ?_ _ | refine zxd ?_ | refine zxn ?_ _ | refine zxs ?_ (by simp <;> omega) _ | refine zxt ?_ (by assumption)) hb; have HB9 := Lib.hid (HB.out.ext hq); have HS9 := Lib.hid (HS.out.ext hq); have HT9 := Lib.hid (HT.out.ext hq); have HX9 := Lib.hid (HX.out.trans hq); clear k0 k1 k2 kl m0_ m1 m2 m3 ml t0 t1 tl HB HS HT HX; have HB := HB9; have HS := HS9; have HT := HT9; have HX := HX9; clear HB9 HS9 HT9 HX9; obtain ⟨k0, k1, k2, kl⟩ := HB.out.c3; obtain ⟨m0_, m1, m2, m3, ml⟩ := HS.out.c4; obtain ⟨t0, t1, _, _, tl⟩ := HT.out.c2; (try (have q9 := Lib.hid (HQ.out.ext hq); clear HQ; have HQ := q9; clear q9)); clear hq; clear hb)
  -- STAGE S3
  by_cases h3 : z3 = 0
  case neg =>
    -- BEGIN L3
    have e0 : (z3 != 0) = true := by simpa using h3
    rw [if_pos h3] at hV
    have HV := Lib.hid hV
    clear hV h3 hE
    go_wp2
    go_ret2
    exact Ret.mk' (by rw [HV.out]; rfl) (HX.out.trans (by repeat first | exact zx0 _ | assumption | refine zxa ?_ _ | refine zxd ?_ | refine zxn ?_ _ | refine zxs ?_ (by simp <;> omega) _ | refine zxt ?_ (by assumption)))
    -- END L3
  case pos =>
  rw [if_neg (by simpa using h3)] at hV
  have HIX := Lib.hid (listErr_zero (hE.trans h3)).2
  have CW := Lib.hid (HCW.out ⟨(listErr_zero (hE.trans h3)).1, (listErr_zero (hE.trans h3)).2⟩)
  clear hE CSE HCW
  subst h3
  unfold lcR at hV
  have hwd : widthTo ss zs zs.length = widthTo ss zs zs.length := rfl
  generalize hwe : widthTo ss zs zs.length = wd at *
  replace hwd := hwe.symm
  clear hwe
  -- STAGE S4
  by_cases h4 : m0 = m
  case neg =>
    -- BEGIN L4
    rw [if_pos (.inl h4)] at hV
    have e0 : (m0 != m) = true := by simpa using h4
    have HV := Lib.hid hV
    clear hV h4 hwd
    go_wp2
    go_quiet (fail)
    go_wp2
    go_ret2
    exact Ret.mk' (by rw [HV.out]; rfl) (HX.out.trans (by repeat first | exact zx0 _ | assumption | refine zxa ?_ _ | refine zxd ?_ | refine zxn ?_ _ | refine zxs ?_ (by simp <;> omega) _ | refine zxt ?_ (by assumption)))
    -- END L4
  case pos =>
  have e4 : (m0 != m) = false := by simpa using h4
  by_cases h5 : wd = m
  case neg =>
    -- BEGIN L5
    rw [if_pos (.inr h5)] at hV
    have e0 : (wd != m) = true := by simpa using h5
    have HV := Lib.hid hV
    clear hV h5 hwd h4
    go_upto_region 7 with fail
    go_region_held3 (fun W => (W.cell? ⟨w.heap.size, 0, none⟩ = some (.string name) ∧ W.cell? ⟨w.heap.size, 1, none⟩ = some (.int .i64 body) ∧ W.cell? ⟨w.heap.size, 2, none⟩ = some (.slice A ss.length c)) ∧ (W.cell? ⟨w.heap.size + 1, 0, none⟩ = some (.slice X xs.length cx) ∧ W.cell? ⟨w.heap.size + 1, 1, none⟩ = some (.slice Y ys.length cy) ∧ W.cell? ⟨w.heap.size + 1, 2, none⟩ = some (.slice D ds.length cd) ∧ W.cell? ⟨w.heap.size + 1, 3, none⟩ = some (.int .i64 m)) ∧ (W.cell? ⟨w.heap.size + 1 + 1, 0, none⟩ = some (.int .i64 m0) ∧ W.cell? ⟨w.heap.size + 1 + 1, 1, none⟩ = some (.slice Z zs.length cz)) ∧ w.heap.size + 1 + 1 < W.heap.size) (first | exact ⟨⟨k0, k1, k2⟩, ⟨m0_, m1, m2, m3⟩, ⟨t0, t1⟩, tl⟩ | go_keep) (first | (go_at_call 59; refine Calls.mono (CW.out _ (HF.out.ext (HX.out.trans (by repeat first | exact zx0 _ | assumption | refine zxa ?_ _ | refine zxd ?_ | refine zxn ?_ _ | refine zxs ?_ (by simp <;> omega) _ | refine zxt ?_ (by assumption)))) (HRZ.out.ext (HX.out.trans (by repeat first | exact zx0 _ | assumption | refine zxa ?_ _ | refine zxd ?_ | refine zxn ?_ _ | refine zxs ?_ (by simp <;> omega) _ | refine zxt ?_ (by assumption))))) ?_; rintro e9 w1 ⟨rfl, hb⟩; have hq := zxx HX.out (by repeat first | exact zx0 _ | assumption | refine zxa ?_ _ | refine zxd ?_ | refine zxn ?_ _ | refine zxs ?_ (by simp <;> omega) _ | refine zxt ?_ (by assumption)) hb; have HB9 := Lib.hid (HB.out.ext hq); have HS9 := Lib.hid (HS.out.ext hq); have HT9 := Lib.hid (HT.out.ext hq); have HX9 := Lib.hid (HX.out.trans hq); clear k0 k1 k2 kl m0_ m1 m2 m3 ml t0 t1 tl HB HS HT HX; have HB := HB9; have HS := HS9; have HT := HT9; have HX := HX9; clear HB9 HS9 HT9 HX9; obtain ⟨k0, k1, k2, kl⟩ := HB.out.c3; obtain ⟨m0_, m1, m2, m3, ml⟩ := HS.out.c4; obtain ⟨t0, t1, _, _, tl⟩ := HT.out.c2; (try (have q9 := Lib.hid (HQ.out.ext hq); clear HQ; have HQ := q9; clear q9)); clear hq; clear hb))
    go_wp2
    go_ret2
    exact Ret.mk' (by rw [HV.out]; rfl) (HX.out.trans (by repeat first | exact zx0 _ | assumption | refine zxa ?_ _ | refine zxd ?_ | refine zxn ?_ _ | refine zxs ?_ (by simp <;> omega) _ | refine zxt ?_ (by assumption)))
    -- END L5
  case pos =>
  -- STAGE S5
  have hnz : 0 < zs.length := by
    rcases Nat.eq_zero_or_pos zs.length with h | h
    · rw [h] at hwd; unfold widthTo at hwd; rw [sumTo] at hwd; omega
    · exact h
  rw [if_neg (by rintro (h | h); exact h h4; exact h h5)] at hV
  have e5 : (wd != m) = false := by simpa using h5
  clear hwd h4 h5
  go_upto_region 7 with fail
  go_region_held3 (fun W => (W.cell? ⟨w.heap.size, 0, none⟩ = some (.string name) ∧ W.cell? ⟨w.heap.size, 1, none⟩ = some (.int .i64 body) ∧ W.cell? ⟨w.heap.size, 2, none⟩ = some (.slice A ss.length c)) ∧ (W.cell? ⟨w.heap.size + 1, 0, none⟩ = some (.slice X xs.length cx) ∧ W.cell? ⟨w.heap.size + 1, 1, none⟩ = some (.slice Y ys.length cy) ∧ W.cell? ⟨w.heap.size + 1, 2, none⟩ = some (.slice D ds.length cd) ∧ W.cell? ⟨w.heap.size + 1, 3, none⟩ = some (.int .i64 m)) ∧ (W.cell? ⟨w.heap.size + 1 + 1, 0, none⟩ = some (.int .i64 m0) ∧ W.cell? ⟨w.heap.size + 1 + 1, 1, none⟩ = some (.slice Z zs.length cz)) ∧ w.heap.size + 1 + 1 < W.heap.size) (first | exact ⟨⟨k0, k1, k2⟩, ⟨m0_, m1, m2, m3⟩, ⟨t0, t1⟩, tl⟩ | go_keep) (first | (go_at_call 59; refine Calls.mono (CW.out _ (HF.out.ext (HX.out.trans (by repeat first | exact zx0 _ | assumption | refine zxa ?_ _ | refine zxd ?_ | refine zxn ?_ _ | refine zxs ?_ (by simp <;> omega) _ | refine zxt ?_ (by assumption)))) (HRZ.out.ext (HX.out.trans (by repeat first | exact zx0 _ | assumption | refine zxa ?_ _ | refine zxd ?_ | refine zxn ?_ _ | refine zxs ?_ (by simp <;> omega) _ | refine zxt ?_ (by assumption))))) ?_; rintro e9 w1 ⟨rfl, hb⟩; have hq := zxx HX.out (by repeat first | exact zx0 _ | assumption | refine zxa ?_ _ | refine zxd ?_ | refine zxn ?_ _ | refine zxs ?_ (by simp <;> omega) _ | refine zxt ?_ (by assumption)) hb; have HB9 := Lib.hid (HB.out.ext hq); have HS9 := Lib.hid (HS.out.ext hq); have HT9 := Lib.hid (HT.out.ext hq); have HX9 := Lib.hid (HX.out.trans hq); clear k0 k1 k2 kl m0_ m1 m2 m3 ml t0 t1 tl HB HS HT HX; have HB := HB9; have HS := HS9; have HT := HT9; have HX := HX9; clear HB9 HS9 HT9 HX9; obtain ⟨k0, k1, k2, kl⟩ := HB.out.c3; obtain ⟨m0_, m1, m2, m3, ml⟩ := HS.out.c4; obtain ⟨t0, t1, _, _, tl⟩ := HT.out.c2; (try (have q9 := Lib.hid (HQ.out.ext hq); clear HQ; have HQ := q9; clear q9)); clear hq; clear hb))
  go_upto_region 10 with fail
  obtain ⟨zb, zo, hZ, hzw, _⟩ := HRZ.out.2.2 hnz
  subst hZ
  -- STAGE S6
  by_cases h6 : zs.length < xs.length + ys.length
  case pos =>
    -- BEGIN L6
    rw [if_pos (.inl h6)] at hV
    have e6 : (zs.length : Int) - (xs.length : Int) - (ys.length : Int) < 0 := by omega
    have HV := Lib.hid hV
    clear hV h6
    go_wp2
    go_quiet (fail)
    go_wp2
    go_ret2
    exact Ret.mk' (by rw [HV.out]; rfl) (HX.out.trans (by repeat first | exact zx0 _ | assumption | refine zxa ?_ _ | refine zxd ?_ | refine zxn ?_ _ | refine zxs ?_ (by simp <;> omega) _ | refine zxt ?_ (by assumption)))
    -- END L6
  case neg =>
  obtain ⟨p, hp⟩ : ∃ p, p = zs.length - ys.length := ⟨_, rfl⟩
  obtain ⟨sz, hsz⟩ : ∃ sz, sz = p - xs.length := ⟨_, rfl⟩
  have hsi : (zs.length : Int) - (xs.length : Int) - (ys.length : Int) = (sz : Int) := by omega
  rw [hsi]
  have e6 : ¬ (sz : Int) < 0 := by omega
  have hw1 : IntKind.i64.wrap ((zs.length : Int) - (ys.length : Int)) = (p : Int) := by rw [IntWalk.i64_in _ (by omega)]; omega
  have hpi : (zs.length : Int) - (ys.length : Int) = (p : Int) := by omega
  have hai : (xs.length : Int) + (sz : Int) = (p : Int) := by omega
  have b1 : (xs.length : Int) ≤ (cz : Int) := by omega
  have b2 : (0 : Int) ≤ (xs.length : Int) := by omega
  have b3 : (0 : Int) ≤ (p : Int) := by omega
  have b4 : (p : Int) ≤ (zs.length : Int) := by omega
  have b5 : (zs.length : Int) ≤ (cz : Int) := by omega
  have b6 : (xs.length : Int) ≤ (p : Int) := by omega
  have b7 : (p : Int) ≤ (cz : Int) := by omega
  have hpn : p ≤ zs.length := by omega
  have hap : xs.length ≤ p := by omega
  have hmid : midL xs ys zs = (zs.take p).drop xs.length := by unfold midL; rw [hp]
  have hml : (midL xs ys zs).length = sz := by rw [hmid, List.length_drop, List.length_take]; omega
  have HTK := Lib.hid (Cut.RI.take HRZ.out hzw xs.length (by omega))
  have HDR : Hid (RI w (if cz = p then some ⟨zb, zo, none⟩ else some ⟨zb, zo + p, none⟩) (zs.length - p) (zs.drop p)) := Lib.hid (by
    by_cases h : cz = p
    · exact ⟨List.length_drop, by omega, fun h1 => absurd h1 (by omega)⟩
    · rw [if_neg h]; exact Cut.RI.drop HRZ.out hzw p hpn)
  have hmd : RI w (if cz = xs.length then some ⟨zb, zo, none⟩ else some ⟨zb, zo + xs.length, none⟩) sz (midL xs ys zs) := by
    by_cases h : cz = xs.length
    · exact ⟨hml, by omega, fun h1 => absurd h1 (by omega)⟩
    · rw [if_neg h, hmid, hsz]; exact Cut.RI.drop (Cut.RI.take HRZ.out hzw p hpn) hzw xs.length hap
  obtain ⟨mo, hmo⟩ : ∃ mo, (if cz = xs.length then some ⟨zb, zo, none⟩ else some ⟨zb, zo + xs.length, none⟩ : Option Addr) = some ⟨zb, mo, none⟩ := by
    by_cases h : cz = xs.length
    · exact ⟨zo, by rw [if_pos h]⟩
    · exact ⟨zo + xs.length, by rw [if_neg h]⟩
  rw [hmo] at hmd
  have HMD := Lib.hid hmd
  have HMO := Lib.hid hmo
  have cE1 := fun W h1 h2 => intsN_any (some ⟨zb, zo, none⟩) X cz cx xs.length xs.length (zs.take xs.length) xs W h1 h2
  have cE2 := fun W h1 h2 => intsN_any (if cz = p then some ⟨zb, zo, none⟩ else some ⟨zb, zo + p, none⟩) Y (cz - p) cy (zs.length - p) ys.length (zs.drop p) ys W h1 h2
  rw [← hp, hml] at hV
  have hmz := HMD.out.len
  have HMR : Hid (∀ z ∈ mid0 xs ys zs, 0 ≤ z ∧ z < (ss.length : Int)) := Lib.hid fun z hz => by
    unfold mid0 midL at hz
    obtain ⟨i, hi, rfl⟩ := List.mem_iff_getElem.1 (List.mem_of_mem_take (List.mem_of_mem_drop hz))
    have := HIX.out i hi
    rw [List.getD_eq_getElem?_getD, List.getElem?_eq_getElem hi] at this
    exact this
  unfold mid0 at HMR
  have HPS : Hid (p - xs.length = sz ∧ xs.length ≤ p ∧ p ≤ zs.length) := Lib.hid ⟨hsz.symm, hap, hpn⟩
  clear hmid hml hmd hmo hpn hap hp hsz
  generalize midL xs ys zs = mid at *
  generalize zs.take xs.length = tk at *
  generalize zs.drop p = dr at *
  -- STAGE S7
  by_cases h7 : tk = xs
  case neg =>
    -- BEGIN L7
    rw [if_pos (.inr (.inl h7))] at hV
    simp only [decide_eq_false h7] at cE1
    have CE1 := Lib.hid cE1; have HV := Lib.hid hV
    clear hV h7 h6 cE1 cE2 hsi
    go_quiet ((go_at_call 30; first | (with_reducible exact SameN.quiet (CE1.out _ (HTK.out.ext (HX.out.trans (by repeat first | exact zx0 _ | assumption | refine zxa ?_ _ | refine zxd ?_ | refine zxn ?_ _ | refine zxs ?_ (by simp <;> omega) _ | refine zxt ?_ (by assumption)))) (HRX.out.ext (HX.out.trans (by repeat first | exact zx0 _ | assumption | refine zxa ?_ _ | refine zxd ?_ | refine zxn ?_ _ | refine zxs ?_ (by simp <;> omega) _ | refine zxt ?_ (by assumption)))))) | (with_reducible exact SameN.quiet (CE2.out _ (HDR.out.ext (HX.out.trans (by repeat first | exact zx0 _ | assumption | refine zxa ?_ _ | refine zxd ?_ | refine zxn ?_ _ | refine zxs ?_ (by simp <;> omega) _ | refine zxt ?_ (by assumption)))) (HRY.out.ext (HX.out.trans (by repeat first | exact zx0 _ | assumption | refine zxa ?_ _ | refine zxd ?_ | refine zxn ?_ _ | refine zxs ?_ (by simp <;> omega) _ | refine zxt ?_ (by assumption))))))))
    go_wp2
    go_ret2
    exact Ret.mk' (by rw [HV.out]; rfl) (HX.out.trans (by repeat first | exact zx0 _ | assumption | refine zxa ?_ _ | refine zxd ?_ | refine zxn ?_ _ | refine zxs ?_ (by simp <;> omega) _ | refine zxt ?_ (by assumption)))
    -- END L7
  case pos =>
  simp only [decide_eq_true h7] at cE1
  have CE1 := Lib.hid cE1
  by_cases h8 : dr = ys
  case neg =>
    -- BEGIN L8
    rw [if_pos (.inr (.inr h8))] at hV
    simp only [decide_eq_false h8] at cE2
    have CE2 := Lib.hid cE2; have HV := Lib.hid hV
    clear hV h7 h8 h6 cE1 cE2 hsi
    go_quiet ((go_at_call 30; first | (with_reducible exact SameN.quiet (CE1.out _ (HTK.out.ext (HX.out.trans (by repeat first | exact zx0 _ | assumption | refine zxa ?_ _ | refine zxd ?_ | refine zxn ?_ _ | refine zxs ?_ (by simp <;> omega) _ | refine zxt ?_ (by assumption)))) (HRX.out.ext (HX.out.trans (by repeat first | exact zx0 _ | assumption | refine zxa ?_ _ | refine zxd ?_ | refine zxn ?_ _ | refine zxs ?_ (by simp <;> omega) _ | refine zxt ?_ (by assumption)))))) | (with_reducible exact SameN.quiet (CE2.out _ (HDR.out.ext (HX.out.trans (by repeat first | exact zx0 _ | assumption | refine zxa ?_ _ | refine zxd ?_ | refine zxn ?_ _ | refine zxs ?_ (by simp <;> omega) _ | refine zxt ?_ (by assumption)))) (HRY.out.ext (HX.out.trans (by repeat first | exact zx0 _ | assumption | refine zxa ?_ _ | refine zxd ?_ | refine zxn ?_ _ | refine zxs ?_ (by simp <;> omega) _ | refine zxt ?_ (by assumption))))))))
    clear CE1 CE2 HTK HDR HRX HRY
    generalize (if cz = p then (some ⟨zb, zo, none⟩ : Option Addr) else some ⟨zb, zo + p, none⟩) = DA
    go_wp2
    go_ret2
    exact Ret.mk' (by rw [HV.out]; rfl) (HX.out.trans (by repeat first | exact zx0 _ | assumption | refine zxa ?_ _ | refine zxd ?_ | refine zxn ?_ _ | refine zxs ?_ (by simp <;> omega) _ | refine zxt ?_ (by assumption)))
    -- END L8
  case pos =>
  simp only [decide_eq_true h8] at cE2
  have CE2 := Lib.hid cE2
  rw [if_neg (by rintro (h | h | h); exact h6 h; exact h h7; exact h h8)] at hV
  -- STAGE S8
  clear h7 h8 h6 cE1 cE2 hsi
  go_quiet ((go_at_call 30; first | (with_reducible exact SameN.quiet (CE1.out _ (HTK.out.ext (HX.out.trans (by repeat first | exact zx0 _ | assumption | refine zxa ?_ _ | refine zxd ?_ | refine zxn ?_ _ | refine zxs ?_ (by simp <;> omega) _ | refine zxt ?_ (by assumption)))) (HRX.out.ext (HX.out.trans (by repeat first | exact zx0 _ | assumption | refine zxa ?_ _ | refine zxd ?_ | refine zxn ?_ _ | refine zxs ?_ (by simp <;> omega) _ | refine zxt ?_ (by assumption)))))) | (with_reducible exact SameN.quiet (CE2.out _ (HDR.out.ext (HX.out.trans (by repeat first | exact zx0 _ | assumption | refine zxa ?_ _ | refine zxd ?_ | refine zxn ?_ _ | refine zxs ?_ (by simp <;> omega) _ | refine zxt ?_ (by assumption)))) (HRY.out.ext (HX.out.trans (by repeat first | exact zx0 _ | assumption | refine zxa ?_ _ | refine zxd ?_ | refine zxn ?_ _ | refine zxs ?_ (by simp <;> omega) _ | refine zxt ?_ (by assumption))))))))
  clear CE1 CE2 HTK HDR HRX HRY
  generalize (if cz = p then (some ⟨zb, zo, none⟩ : Option Addr) else some ⟨zb, zo + p, none⟩) = DA
  go_upto_region 13 with fail
  rw [HMO.out]
  have hbz := HRZ.out.big
  clear HMO HRZ
  obtain ⟨K, hK⟩ : ∃ K, K = sz / ds.length := ⟨_, rfl⟩
  have hKl : K * ds.length ≤ sz := by rw [hK]; exact Nat.div_mul_le_self _ _
  have hKs : K ≤ sz := by rw [hK]; exact Nat.div_le_self _ _
  have jd : (sz : Int).tdiv (ds.length : Int) = (K : Int) := by rw [Int.tdiv_eq_ediv_of_nonneg (by omega), hK]; rfl
  have hsz1 : sz ≤ 1000 := by have := HPS.out; omega
  have hK9 : (K : Int) ≤ 1000 := by omega
  have jw : IntKind.i64.wrap (K : Int) = (K : Int) := IntWalk.i64_in _ (by clear hKl hK jd; omega)
  have jn : ((ds.length : Int) == 0) = false := beq_eq_false_iff_ne.2 (by omega)
  have HVS : Hid (∀ k, dnT (midB (spB ss) ds mid) (K + 1) = some k → V = ((k : Int), 0)) := Lib.hid fun k h => by rw [hV, ← hK, h]
  have HVN : Hid (dnT (midB (spB ss) ds mid) (K + 1) = none → V = (0, 3)) := Lib.hid fun h => by rw [hV, ← hK, h]
  have HP : Hid (∀ k, k ≤ K → midB (spB ss) ds mid k = okTo (midT (spB ss) ds mid (sz - k * ds.length)) sz) := Lib.hid fun k _ => by rw [midB_ok, hmz]
  have HKL := Lib.hid hKl
  have hpx := HPS.out.1
  have hcm : sz ≤ cz - xs.length := by have := HPS.out; omega
  obtain ⟨cm, hcmv⟩ : ∃ cm, cz - xs.length = cm := ⟨_, rfl⟩
  rw [hpx, hcmv]
  rw [hcmv] at hcm
  clear hV hK hKl hpx hcmv HPS
  generalize midB (spB ss) ds mid = P at *
  go_upto_block 14 with fail
  have HB1 := HB; have HS1 := HS; have HT1 := HT; have HX1 : Hid (Ext w (w1.drewN nq)) := Lib.hid (HX.out.trans (by repeat first | exact zx0 _ | assumption | refine zxa ?_ _ | refine zxd ?_ | refine zxn ?_ _ | refine zxs ?_ (by simp <;> omega) _ | refine zxt ?_ (by assumption)))
  clear k0 k1 k2 kl m0_ m1 m2 m3 ml t0 t1 tl HB HS HT HX
  go_loopw [12, 13, 14, 15] (fun v _ _ _ wr => ∃ (k : Nat) (z : Int), k ≤ K + 1 ∧ z = (k : Int) - 1 ∧ v = .int .i64 z ∧ Hid (dnT P k = dnT P (K + 1)) ∧ Hid (Blk wr w.heap.size 24 #[.string name, .int .i64 body, .slice A ss.length c]) ∧ Hid (Blk wr (w.heap.size + 1) 27 #[.slice X xs.length cx, .slice Y ys.length cy, .slice D ds.length cd, .int .i64 m]) ∧ Hid (Blk wr (w.heap.size + 1 + 1) 29 #[.int .i64 m0, .slice (some ⟨zb, zo, none⟩) zs.length cz]) ∧ Hid (Ext w wr)) (fun v _ _ _ _ => (intOf v + 1).toNat)
  case atStart => exact ⟨K + 1, (K : Int), Nat.le_refl _, by omega, rfl, Lib.hid rfl, Lib.hid (HB1.out.drewN _), Lib.hid (HS1.out.drewN _), Lib.hid (HT1.out.drewN _), HX1⟩
  case round =>
    obtain ⟨k, z, hk, hz, rfl, HD, HB, HS, HT, HX⟩ := hrel
    clear HB1 HS1 HT1 HX1
    obtain ⟨k0, k1, k2, kl⟩ := HB.out.c3; obtain ⟨m0_, m1, m2, m3, ml⟩ := HS.out.c4; obtain ⟨t0, t1, _, _, tl⟩ := HT.out.c2
    rcases Nat.eq_zero_or_pos k with hk0 | hk0
    case inl =>
      -- BEGIN R0
      subst hk0
      have h9 : ¬ (0 ≤ z) := by omega
      have HV := Lib.hid (HVN.out HD.out.symm)
      go_wp2
      go_ret2
      exact Ret.mk' (by rw [HV.out]; rfl) (HX.out.trans (by repeat first | exact zx0 _ | assumption | refine zxa ?_ _ | refine zxd ?_ | refine zxn ?_ _ | refine zxs ?_ (by simp <;> omega) _ | refine zxt ?_ (by assumption)))
      -- END R0
    case inr =>
    obtain ⟨j, rfl⟩ : ∃ j, k = j + 1 := ⟨k - 1, by omega⟩
    have hz2 : z = (j : Int) := by omega
    clear hz hk0
    subst hz2
    have h9 : (0 : Int) ≤ (j : Int) := by omega
    have hq0 : j * ds.length ≤ sz := Nat.le_trans (Nat.mul_le_mul_right _ (by omega)) HKL.out
    have q1 : IntKind.i64.wrap ((j : Int) * (ds.length : Int)) = ((j * ds.length : Nat) : Int) := by rw [← Int.natCast_mul, IntWalk.i64_in _ (by omega)]
    have HPJ := Lib.hid (HP.out j (by omega))
    obtain ⟨fr, hfr⟩ : ∃ fr, fr = sz - j * ds.length := ⟨_, rfl⟩
    rw [← hfr] at HPJ
    have hfl : ((sz : Int) - ((j * ds.length : Nat) : Int)) = (fr : Int) := by omega
    generalize j * ds.length = q at *
    have hfz : fr ≤ sz := by omega
    clear hfr HP
    go_upto_block 19 with fail
    obtain ⟨T, hT⟩ : ∃ T, midT (spB ss) ds mid fr = T := ⟨_, rfl⟩
    have HTI : Hid (∀ i, i < fr → T i = spB ss (mid.getD i 0)) := Lib.hid fun i hi => by rw [← hT, midT, if_pos hi]
    have HTJ : Hid (∀ i, ¬ i < fr → T i = decide (mid.getD i 0 = ds.getD ((i - fr) % ds.length) 0)) := Lib.hid fun i hi => by rw [← hT, midT, if_neg hi]
    rw [hT] at HPJ
    clear hT
    have HB1 := HB; have HS1 := HS; have HT1 := HT; have HX1 := HX
    clear k0 k1 k2 kl m0_ m1 m2 m3 ml t0 t1 tl HB HS HT HX
    go_loopw [14, 15] (fun v14 v15 wx => ∃ i : Nat, i ≤ sz ∧ v15 = .int .i64 (i : Int) ∧ v14 = .bool (okTo T i) ∧ Hid (Blk wx w.heap.size 24 #[.string name, .int .i64 body, .slice A ss.length c]) ∧ Hid (Blk wx (w.heap.size + 1) 27 #[.slice X xs.length cx, .slice Y ys.length cy, .slice D ds.length cd, .int .i64 m]) ∧ Hid (Blk wx (w.heap.size + 1 + 1) 29 #[.int .i64 m0, .slice (some ⟨zb, zo, none⟩) zs.length cz]) ∧ Hid (Ext w wx)) (fun _ v15 _ => sz - (intOf v15).toNat)
    case atStart => exact ⟨0, Nat.zero_le _, rfl, rfl, HB1, HS1, HT1, HX1⟩
    case round =>
      obtain ⟨i, hi, rfl, rfl, HB, HS, HT, HX⟩ := hrel
      clear HB1 HS1 HT1 HX1
      obtain ⟨k0, k1, k2, kl⟩ := HB.out.c3; obtain ⟨m0_, m1, m2, m3, ml⟩ := HS.out.c4; obtain ⟨t0, t1, _, _, tl⟩ := HT.out.c2
      have HN := Lib.hid (okTo_next T i)
      by_cases hlt : i < sz
      case neg =>
        -- BEGIN E0
        obtain rfl : i = sz := by omega
        rw [← HPJ.out]
        cases hpj : P j
        case false =>
          have HD2 : Hid (dnT P j = dnT P (K + 1)) := Lib.hid (by have h := HD.out; rw [dnT, hpj] at h; exact h)
          clear HD HPJ hpj
          go_wp2
          go_roundw
          case rel => exact ⟨j, (j : Int) - 1, by omega, rfl, by rfl, HD2, HB, HS, HT, HX⟩
          case measure => simp [intOf]
        case true =>
          have HV := Lib.hid (HVS.out j (by have h := HD.out; rw [dnT, hpj] at h; exact h.symm))
          clear HD HPJ hpj
          go_wp2
          go_ret2
          exact Ret.mk' (by rw [HV.out]; rfl) (HX.out.trans (by repeat first | exact zx0 _ | assumption | refine zxa ?_ _ | refine zxd ?_ | refine zxn ?_ _ | refine zxs ?_ (by simp <;> omega) _ | refine zxt ?_ (by assumption)))
        -- END E0
      case pos =>
      have ii : (i : Int) < (sz : Int) := by omega
      have hsp : 0 < sz := by omega
      obtain ⟨b9, off9, e9, _, hcell⟩ := (HMD.out.ext HX.out).2.2 hsp
      injection e9 with e9
      injection e9 with e91 e92
      subst e91 e92
      have c1 := hcell i hlt
      have hzr := HMR.out _ (plGetD (l := mid) (i := i) (by omega))
      have HTI2 := Lib.hid (HTI.out i); have HTJ2 := Lib.hid (HTJ.out i)
      clear hcell
      obtain ⟨ok, hok⟩ : ∃ ok, okTo T i = ok := ⟨_, rfl⟩
      rw [hok] at HN ⊢
      clear hok
      obtain ⟨tt, htt⟩ : ∃ tt, T i = tt := ⟨_, rfl⟩
      rw [htt] at HN HTI2 HTJ2
      clear htt
      obtain ⟨nx, hnx⟩ : ∃ nx, okTo T (i + 1) = nx := ⟨_, rfl⟩
      rw [hnx] at HN
      have HNE := Lib.hid hnx
      clear hnx
      generalize mid.getD i 0 = z at *
      obtain ⟨zn, rfl⟩ : ∃ zn : Nat, z = (zn : Int) := ⟨z.toNat, by omega⟩
      have hzl : zn < ss.length := by omega
      clear hzr
      by_cases hif : i < fr
      case pos =>
        have i1 : (i : Int) < (fr : Int) := by omega
        have htt := HTI2.out hif
        cases ok
        case false =>
          -- BEGIN A0
          have HNX : Hid (nx = false) := Lib.hid (by rw [HN.out]; rfl)
          clear HN HTI2 HTJ2 htt
          go_upto_region 22 with fail
          go_quiet (fail)
          go_wp2
          go_roundw
          case rel => exact ⟨i + 1, by omega, by go_num, by rw [HNE.out, HNX.out], Lib.hid (HB.out.drewN _), Lib.hid (HS.out.drewN _), Lib.hid (HT.out.drewN _), Lib.hid (HX.out.drewN _)⟩
          case measure => simp [intOf]; omega
          -- END A0
        case true =>
          -- BEGIN A1
          have CIS := Lib.hid (HCI.out zn tt hzl (by rw [htt]; rfl))
          have HNX : Hid (nx = tt) := Lib.hid (by rw [HN.out]; rfl)
          clear HN HTI2 HTJ2 htt
          cases tt
          case false =>
            go_upto_region 22 with fail
            have hzb : zb < wr.heap.size := Nat.lt_of_lt_of_le hzw HX.out.size
            refine wp_region_rel [some (.bool true), some (.bool true), some (.agg #[.string name, .int .i64 body, .slice A ss.length c]), some (.slice (some ⟨zb, mo, none⟩) sz cm), some (.int .i64 (i : Int)), some (.pointer (some ⟨zb, mo + i, none⟩)), some (.int .i64 (zn : Int)), some (.bool false), some (.bool false), some (.bool false)] (fun k v W => True) wr (by kernel_rfl) (by kernel_rfl) rfl (fun k v W W' h hx => trivial) (Ext.refl _) ⟨?_, ?_, ?_, ?_, ?_, ?_, ?_, ?_, ?_, ?_, trivial⟩ ?_
            · intro U W hx hR
              clear hR
              refine StepZ.go rfl ?_
              go_simp
              exact ⟨(by repeat first | exact zx0 _ | assumption | refine zxa ?_ _ | refine zxd ?_ | refine zxn ?_ _ | refine zxs ?_ (by simp <;> omega) _ | refine zxt ?_ (by assumption)), gives_k (by kernel_rfl)⟩
            · intro U W hx hR
              clear hR
              refine StepZ.go rfl ?_
              go_simp
              exact ⟨(by repeat first | exact zx0 _ | assumption | refine zxa ?_ _ | refine zxd ?_ | refine zxn ?_ _ | refine zxs ?_ (by simp <;> omega) _ | refine zxt ?_ (by assumption)), gives_k (by kernel_rfl)⟩
            · intro U W hx hR
              clear hR
              obtain ⟨k0, k1, k2, kl⟩ := (HB.out.ext hx).c3
              refine StepZ.go (by kernel_rfl) ?_
              go_simp
              exact ⟨(by repeat first | exact zx0 _ | assumption | refine zxa ?_ _ | refine zxd ?_ | refine zxn ?_ _ | refine zxs ?_ (by simp <;> omega) _ | refine zxt ?_ (by assumption)), gives_k (by kernel_rfl)⟩
            · intro U W hx hR
              clear hR
              refine StepZ.go (by kernel_rfl) ?_
              go_simp
              exact ⟨(by repeat first | exact zx0 _ | assumption | refine zxa ?_ _ | refine zxd ?_ | refine zxn ?_ _ | refine zxs ?_ (by simp <;> omega) _ | refine zxt ?_ (by assumption)), gives_k (by kernel_rfl)⟩
            · intro U W hx hR
              clear hR
              refine StepZ.go (by kernel_rfl) ?_
              go_simp
              exact ⟨(by repeat first | exact zx0 _ | assumption | refine zxa ?_ _ | refine zxd ?_ | refine zxn ?_ _ | refine zxs ?_ (by simp <;> omega) _ | refine zxt ?_ (by assumption)), gives_k (by kernel_rfl)⟩
            · intro U W hx hR
              clear hR
              refine StepZ.go (by kernel_rfl) ?_
              go_simp
              exact ⟨(by repeat first | exact zx0 _ | assumption | refine zxa ?_ _ | refine zxd ?_ | refine zxn ?_ _ | refine zxs ?_ (by simp <;> omega) _ | refine zxt ?_ (by assumption)), gives_k (by kernel_rfl)⟩
            · intro U W hx hR
              clear hR
              have c9 := (hx.cell (p := ⟨zb, mo + i, none⟩) hzb).trans c1
              refine StepZ.go (by kernel_rfl) ?_
              go_simp
              exact ⟨(by repeat first | exact zx0 _ | assumption | refine zxa ?_ _ | refine zxd ?_ | refine zxn ?_ _ | refine zxs ?_ (by simp <;> omega) _ | refine zxt ?_ (by assumption)), gives_k (by kernel_rfl)⟩
            · intro U W hx hR
              clear hR
              refine StepZ.go (by kernel_rfl) ?_
              go_simp
              refine Calls.mono (CIS.out _ (HF.out.ext (HX.out.trans hx))) ?_; rintro e w1 ⟨rfl, hb⟩; exact ⟨_, rfl, hb, gives_k (by kernel_rfl)⟩
            · intro U W hx hR
              clear hR
              refine StepZ.go rfl ?_
              go_simp
              exact ⟨(by repeat first | exact zx0 _ | assumption | refine zxa ?_ _ | refine zxd ?_ | refine zxn ?_ _ | refine zxs ?_ (by simp <;> omega) _ | refine zxt ?_ (by assumption)), gives_k (by kernel_rfl)⟩
            · intro U W hx hR
              clear hR
              refine StepZ.go rfl ?_
              go_simp
              exact ⟨(by repeat first | exact zx0 _ | assumption | refine zxa ?_ _ | refine zxd ?_ | refine zxn ?_ _ | refine zxs ?_ (by simp <;> omega) _ | refine zxt ?_ (by assumption)), gives_k (by kernel_rfl)⟩
            · intro U W hx hR
              clear hR
              simp only [putAll, vu, Act.put, List.setIfInBounds_toArray, List.set_cons_zero, List.set_cons_succ]
              have HB2 := Lib.hid (HB.out.ext hx); have HS2 := Lib.hid (HS.out.ext hx); have HT2 := Lib.hid (HT.out.ext hx); have HX2 := Lib.hid (HX.out.trans hx)
              clear HB HS HT HX hx
              go_wp2
              go_roundw
              case rel => exact ⟨i + 1, by omega, by go_num, by rw [HNE.out, HNX.out], HB2, HS2, HT2, HX2⟩
              case measure => simp [intOf]; omega
          case true =>
            go_upto_region 22 with fail
            have hzb : zb < wr.heap.size := Nat.lt_of_lt_of_le hzw HX.out.size
            refine wp_region_rel [some (.bool true), some (.bool true), some (.agg #[.string name, .int .i64 body, .slice A ss.length c]), some (.slice (some ⟨zb, mo, none⟩) sz cm), some (.int .i64 (i : Int)), some (.pointer (some ⟨zb, mo + i, none⟩)), some (.int .i64 (zn : Int)), some (.bool true), some (.bool true), some (.bool true)] (fun k v W => True) wr (by kernel_rfl) (by kernel_rfl) rfl (fun k v W W' h hx => trivial) (Ext.refl _) ⟨?_, ?_, ?_, ?_, ?_, ?_, ?_, ?_, ?_, ?_, trivial⟩ ?_
            · intro U W hx hR
              clear hR
              refine StepZ.go rfl ?_
              go_simp
              exact ⟨(by repeat first | exact zx0 _ | assumption | refine zxa ?_ _ | refine zxd ?_ | refine zxn ?_ _ | refine zxs ?_ (by simp <;> omega) _ | refine zxt ?_ (by assumption)), gives_k (by kernel_rfl)⟩
            · intro U W hx hR
              clear hR
              refine StepZ.go rfl ?_
              go_simp
              exact ⟨(by repeat first | exact zx0 _ | assumption | refine zxa ?_ _ | refine zxd ?_ | refine zxn ?_ _ | refine zxs ?_ (by simp <;> omega) _ | refine zxt ?_ (by assumption)), gives_k (by kernel_rfl)⟩
            · intro U W hx hR
              clear hR
              obtain ⟨k0, k1, k2, kl⟩ := (HB.out.ext hx).c3
              refine StepZ.go (by kernel_rfl) ?_
              go_simp
              exact ⟨(by repeat first | exact zx0 _ | assumption | refine zxa ?_ _ | refine zxd ?_ | refine zxn ?_ _ | refine zxs ?_ (by simp <;> omega) _ | refine zxt ?_ (by assumption)), gives_k (by kernel_rfl)⟩
            · intro U W hx hR
              clear hR
              refine StepZ.go (by kernel_rfl) ?_
              go_simp
              exact ⟨(by repeat first | exact zx0 _ | assumption | refine zxa ?_ _ | refine zxd ?_ | refine zxn ?_ _ | refine zxs ?_ (by simp <;> omega) _ | refine zxt ?_ (by assumption)), gives_k (by kernel_rfl)⟩
            · intro U W hx hR
              clear hR
              refine StepZ.go (by kernel_rfl) ?_
              go_simp
              exact ⟨(by repeat first | exact zx0 _ | assumption | refine zxa ?_ _ | refine zxd ?_ | refine zxn ?_ _ | refine zxs ?_ (by simp <;> omega) _ | refine zxt ?_ (by assumption)), gives_k (by kernel_rfl)⟩
            · intro U W hx hR
              clear hR
              refine StepZ.go (by kernel_rfl) ?_
              go_simp
              exact ⟨(by repeat first | exact zx0 _ | assumption | refine zxa ?_ _ | refine zxd ?_ | refine zxn ?_ _ | refine zxs ?_ (by simp <;> omega) _ | refine zxt ?_ (by assumption)), gives_k (by kernel_rfl)⟩
            · intro U W hx hR
              clear hR
              have c9 := (hx.cell (p := ⟨zb, mo + i, none⟩) hzb).trans c1
              refine StepZ.go (by kernel_rfl) ?_
              go_simp
              exact ⟨(by repeat first | exact zx0 _ | assumption | refine zxa ?_ _ | refine zxd ?_ | refine zxn ?_ _ | refine zxs ?_ (by simp <;> omega) _ | refine zxt ?_ (by assumption)), gives_k (by kernel_rfl)⟩
            · intro U W hx hR
              clear hR
              refine StepZ.go (by kernel_rfl) ?_
              go_simp
              refine Calls.mono (CIS.out _ (HF.out.ext (HX.out.trans hx))) ?_; rintro e w1 ⟨rfl, hb⟩; exact ⟨_, rfl, hb, gives_k (by kernel_rfl)⟩
            · intro U W hx hR
              clear hR
              refine StepZ.go rfl ?_
              go_simp
              exact ⟨(by repeat first | exact zx0 _ | assumption | refine zxa ?_ _ | refine zxd ?_ | refine zxn ?_ _ | refine zxs ?_ (by simp <;> omega) _ | refine zxt ?_ (by assumption)), gives_k (by kernel_rfl)⟩
            · intro U W hx hR
              clear hR
              refine StepZ.go rfl ?_
              go_simp
              exact ⟨(by repeat first | exact zx0 _ | assumption | refine zxa ?_ _ | refine zxd ?_ | refine zxn ?_ _ | refine zxs ?_ (by simp <;> omega) _ | refine zxt ?_ (by assumption)), gives_k (by kernel_rfl)⟩
            · intro U W hx hR
              clear hR
              simp only [putAll, vu, Act.put, List.setIfInBounds_toArray, List.set_cons_zero, List.set_cons_succ]
              have HB2 := Lib.hid (HB.out.ext hx); have HS2 := Lib.hid (HS.out.ext hx); have HT2 := Lib.hid (HT.out.ext hx); have HX2 := Lib.hid (HX.out.trans hx)
              clear HB HS HT HX hx
              go_wp2
              go_roundw
              case rel => exact ⟨i + 1, by omega, by go_num, by rw [HNE.out, HNX.out], HB2, HS2, HT2, HX2⟩
              case measure => simp [intOf]; omega
          -- END A1
      case neg =>
        have i1 : ¬ (i : Int) < (fr : Int) := by omega
        have htt := HTJ2.out hif
        cases ok
        case false =>
          -- BEGIN B0
          have HNX : Hid (nx = false) := Lib.hid (by rw [HN.out]; rfl)
          clear HN HTI2 HTJ2 htt
          go_upto_region 23 with fail
          go_quiet (fail)
          go_wp2
          go_roundw
          case rel => exact ⟨i + 1, by omega, by go_num, by rw [HNE.out, HNX.out], Lib.hid (HB.out.drewN _), Lib.hid (HS.out.drewN _), Lib.hid (HT.out.drewN _), Lib.hid (HX.out.drewN _)⟩
          case measure => simp [intOf]; omega
          -- END B0
        case true =>
          -- BEGIN B1
          have HN2 : Hid (nx = tt) := Lib.hid (by rw [HN.out]; rfl)
          obtain ⟨r, hr⟩ : ∃ r, (i - fr) % ds.length = r := ⟨_, rfl⟩
          have hrl : r < ds.length := by rw [← hr]; exact Nat.mod_lt _ (by omega)
          have j5 : ((i : Int) - (fr : Int)).tmod (ds.length : Int) = (r : Int) := by
            rw [Int.tmod_eq_emod_of_nonneg (by omega), ← hr, show (i : Int) - (fr : Int) = ((i - fr : Nat) : Int) by omega]; rfl
          have j6 : IntKind.i64.wrap (r : Int) = (r : Int) := IntWalk.i64_in _ (by omega)
          have j7 : (r : Int) < (ds.length : Int) := by omega
          have j8 : IntKind.i64.wrap ((i : Int) - (fr : Int)) = (i : Int) - (fr : Int) := IntWalk.i64_in _ (by omega)
          rw [hr] at htt
          clear hr
          obtain ⟨db, dof, hD, _, hcd⟩ := (HRD.out.ext HX.out).2.2 (by omega)
          subst hD
          have c2 := hcd r hrl
          clear hcd HN HTI2 HTJ2
          generalize ds.getD r 0 = y at *
          by_cases hzy : (zn : Int) = y
          case pos =>
            have e0 : ((zn : Int) == y) = true := beq_iff_eq.2 hzy
            rw [decide_eq_true hzy] at htt
            subst htt
            have HNX := HN2
            clear hzy HN2
            go_upto_region 23 with fail
            go_quiet (fail)
            go_wp2
            go_roundw
            case rel => exact ⟨i + 1, by omega, by go_num, by rw [HNE.out, HNX.out], Lib.hid (HB.out.drewN _), Lib.hid (HS.out.drewN _), Lib.hid (HT.out.drewN _), Lib.hid (HX.out.drewN _)⟩
            case measure => simp [intOf]; omega
          case neg =>
            have e0 : ((zn : Int) == y) = false := beq_eq_false_iff_ne.2 hzy
            rw [decide_eq_false hzy] at htt
            subst htt
            have HNX := HN2
            clear hzy HN2
            go_upto_region 23 with fail
            go_quiet (fail)
            go_wp2
            go_roundw
            case rel => exact ⟨i + 1, by omega, by go_num, by rw [HNE.out, HNX.out], Lib.hid (HB.out.drewN _), Lib.hid (HS.out.drewN _), Lib.hid (HT.out.drewN _), Lib.hid (HX.out.drewN _)⟩
            case measure => simp [intOf]; omega
          -- END B1
end Go.Proofs.YtffafbllgdonlaaGreatDoor
