/-
  Walk: a leader in memory of its own.
-/
import Derived.Test.YtffafbllgdonlaaGreatDoorLdMem
import Derived.Test.YtffafbllgdonlaaGreatDoorGE
import Derived.Deep.RegionHeld3
namespace Go.Proofs.YtffafbllgdonlaaGreatDoor
open Go.RowKit

def RetLD (x : LD) (w : World) (e : Ending) (w' : World) : Prop := ∃ t : LD, e = .returned t.val ∧ LDR w' t ∧ t.xs = x.xs ∧ t.ys = x.ys ∧ t.ds = x.ds ∧ t.m = x.m ∧ Ext w w'
theorem ld_far {W W' : World} {base sz n : Nat} {t : TypeId} {v : Value} {cs : List Value} (h : W.ownsRow base t sz v n cs) (hh : ∀ k, base ≤ k → W'.heap[k]? = W.heap[k]?) : W'.ownsRow base t sz v n cs :=
  ⟨h.1, h.2.imp id fun ⟨g, cap, cur, hv, hb, hg, rest⟩ => ⟨g, cap, cur, hv, hb, (hh g hb).trans hg, rest⟩⟩
theorem ld_ri {W : World} {r base c : Nat} {A : Option Addr} {zs : List Int} {a b d e : Value} (h : SL W base A c zs) (hb : r < base) (hz : zs.length ≤ 1000) :
    RI ((((W.setCell ⟨r, 0, none⟩ a).setCell ⟨r, 1, none⟩ b).setCell ⟨r, 2, none⟩ d).setCell ⟨r, 3, none⟩ e) A zs.length zs :=
  (SL.of_own (ld_far h.own fun k hk => by
    have hk : k ≠ r := by omega
    rw [Below.heap_setCell _ _ _ _ hk, Below.heap_setCell _ _ _ _ hk, Below.heap_setCell _ _ _ _ hk, Below.heap_setCell _ _ _ _ hk]) (by omega)).ri
set_option maxRecDepth 100000 in
set_option maxHeartbeats 8000000 in
theorem leader_any (x : LD) (w : World) (hx : LDR w x) (h1 : x.xs.length ≤ 1000) (h2 : x.ys.length ≤ 1000) (h3 : x.ds.length ≤ 1000) : Calls Tryz.prog 13 #[x.val] w (RetLD x w) := by
  have CX := Lib.hid (fun W h => copyInts_any x.A x.c x.xs W h (by omega)); have CY := Lib.hid (fun W h => copyInts_any x.B x.d x.ys W h (by omega)); have CD := Lib.hid (fun W h => copyInts_any x.D x.e x.ds W h (by omega))
  have HRX := Lib.hid hx.rx; have HRY := Lib.hid hx.ry; have HRD := Lib.hid hx.rd
  have HMK : Hid (∀ t : LD, t.xs = x.xs → t.ys = x.ys → t.ds = x.ds → t.m = x.m → ∀ e w', e = .returned t.val → LDR w' t → Ext w w' → RetLD x w e w') := Lib.hid fun t h1 h2 h3 h4 e w' h5 h6 h7 => ⟨t, h5, h6, h1, h2, h3, h4, h7⟩
  clear hx
  generalize RetLD x w = RR at *
  obtain ⟨X, cx, xs, Y, cy, ys, D, cd, ds, m⟩ := x
  simp only [LD.val] at *
  go_enter Tryz.func13, Tryz.ntmps13
  obtain ⟨wq, hwq⟩ : ∃ wq, (w.alloc (.cells #[.slice X xs.length cx, .slice Y ys.length cy, .slice D ds.length cd, .int .i64 m] 27)).alloc (.cells #[.slice none 0 0, .slice none 0 0, .slice none 0 0, .int .i64 0] 27) = wq := ⟨_, rfl⟩
  have HS : Hid (Blk wq w.heap.size 27 #[.slice X xs.length cx, .slice Y ys.length cy, .slice D ds.length cd, .int .i64 m]) := Lib.hid (by rw [← hwq]; exact (Blk.new w _ _).alloc _)
  have HR : Hid (Blk wq (w.heap.size + 1) 27 #[.slice none 0 0, .slice none 0 0, .slice none 0 0, .int .i64 0]) := Lib.hid (by rw [← hwq]; exact Blk.new1 w _ _ _)
  have HX : Hid (Ext w wq) := Lib.hid (by rw [← hwq]; exact (by repeat first | exact zx0 _ | assumption | refine zxa ?_ _ | refine zxd ?_ | refine zxn ?_ _ | refine zxs ?_ (by simp <;> omega) _ | refine zxt ?_ (by assumption)))
  go_upto_region 1 with fail
  (try rw [hwq])
  clear hwq
  obtain ⟨m0, m1, m2, m3, ml⟩ := HS.out.c4; obtain ⟨r0, r1, r2, r3, rl⟩ := HR.out.c4; have rf0 := HR.out.frozen 0; have rf1 := HR.out.frozen 1; have rf2 := HR.out.frozen 2; have rf3 := HR.out.frozen 3
  go_region_held3 (fun W => (W.cell? ⟨w.heap.size, 0, none⟩ = some (.slice X xs.length cx) ∧ W.cell? ⟨w.heap.size, 1, none⟩ = some (.slice Y ys.length cy) ∧ W.cell? ⟨w.heap.size, 2, none⟩ = some (.slice D ds.length cd) ∧ W.cell? ⟨w.heap.size, 3, none⟩ = some (.int .i64 m)) ∧ ((W.cell? ⟨w.heap.size + 1, 0, none⟩).isSome = true ∧ (W.cell? ⟨w.heap.size + 1, 1, none⟩).isSome = true ∧ (W.cell? ⟨w.heap.size + 1, 2, none⟩).isSome = true ∧ (W.cell? ⟨w.heap.size + 1, 3, none⟩).isSome = true) ∧ (W.frozen? ⟨w.heap.size + 1, 0, none⟩ = false ∧ W.frozen? ⟨w.heap.size + 1, 1, none⟩ = false ∧ W.frozen? ⟨w.heap.size + 1, 2, none⟩ = false ∧ W.frozen? ⟨w.heap.size + 1, 3, none⟩ = false) ∧ w.heap.size + 1 < W.heap.size) (first | exact ⟨⟨m0, m1, m2, m3⟩, ⟨by rw [r0]; rfl, by rw [r1]; rfl, by rw [r2]; rfl, by rw [r3]; rfl⟩, ⟨rf0, rf1, rf2, rf3⟩, rl⟩ | (have HQ := (((HR.out.set_ 0 (.slice ZA xs.length Zc)).set_ 1 (.slice UA ys.length Uc)).set_ 2 (.slice VA ds.length Vc)).set_ 3 (.int .i64 m); have HP := (((HS.out.far (p := ⟨w.heap.size + 1, 0, none⟩) (by simp) (.slice ZA xs.length Zc)).far (p := ⟨w.heap.size + 1, 1, none⟩) (by simp) (.slice UA ys.length Uc)).far (p := ⟨w.heap.size + 1, 2, none⟩) (by simp) (.slice VA ds.length Vc)).far (p := ⟨w.heap.size + 1, 3, none⟩) (by simp) (.int .i64 m); exact ⟨⟨HP.cell 0 _ rfl, HP.cell 1 _ rfl, HP.cell 2 _ rfl, HP.cell 3 _ rfl⟩, ⟨by rw [HQ.cell 0 _ rfl]; rfl, by rw [HQ.cell 1 _ rfl]; rfl, by rw [HQ.cell 2 _ rfl]; rfl, by rw [HQ.cell 3 _ rfl]; rfl⟩, ⟨HQ.frozen 0, HQ.frozen 1, HQ.frozen 2, HQ.frozen 3⟩, HQ.lt⟩) | go_keep) (first | (have q9 := HU; clear q9; (go_at_call 14; refine Calls.mono (CD.out _ (HRD.out.ext (HX.out.trans (by repeat first | exact zx0 _ | assumption | refine zxa ?_ _ | refine zxd ?_ | refine zxn ?_ _ | refine zxs ?_ (by simp <;> omega) _ | refine zxt ?_ (by assumption))))) ?_; rintro e9 w1 ⟨VA, Vc, rfl, hsl, hb⟩; have HV := Lib.hid (SL.mono (base' := w.heap.size + 1 + 1) hsl (by first | exact rl | (have h9 := rl; simp at h9 ⊢; omega))); clear hsl; have hq := zxx HX.out (by repeat first | exact zx0 _ | assumption | refine zxa ?_ _ | refine zxd ?_ | refine zxn ?_ _ | refine zxs ?_ (by simp <;> omega) _ | refine zxt ?_ (by assumption)) hb; have HS9 := Lib.hid (HS.out.ext hq); have HR9 := Lib.hid (HR.out.ext hq); have HX9 := Lib.hid (HX.out.trans hq); clear m0 m1 m2 m3 ml r0 r1 r2 r3 rl rf0 rf1 rf2 rf3 HS HR HX; have HS := HS9; have HR := HR9; have HX := HX9; clear HS9 HR9 HX9; obtain ⟨m0, m1, m2, m3, ml⟩ := HS.out.c4; obtain ⟨r0, r1, r2, r3, rl⟩ := HR.out.c4; have rf0 := HR.out.frozen 0; have rf1 := HR.out.frozen 1; have rf2 := HR.out.frozen 2; have rf3 := HR.out.frozen 3; have HU9 := Lib.hid (HU.out.ext hq); have HZ9 := Lib.hid (HZ.out.ext hq); clear HU HZ; have HU := HU9; have HZ := HZ9; clear HU9 HZ9; clear hb hq)) | (have q9 := HZ; clear q9; (go_at_call 14; refine Calls.mono (CY.out _ (HRY.out.ext (HX.out.trans (by repeat first | exact zx0 _ | assumption | refine zxa ?_ _ | refine zxd ?_ | refine zxn ?_ _ | refine zxs ?_ (by simp <;> omega) _ | refine zxt ?_ (by assumption))))) ?_; rintro e9 w1 ⟨UA, Uc, rfl, hsl, hb⟩; have HU := Lib.hid (SL.mono (base' := w.heap.size + 1 + 1) hsl (by first | exact rl | (have h9 := rl; simp at h9 ⊢; omega))); clear hsl; have hq := zxx HX.out (by repeat first | exact zx0 _ | assumption | refine zxa ?_ _ | refine zxd ?_ | refine zxn ?_ _ | refine zxs ?_ (by simp <;> omega) _ | refine zxt ?_ (by assumption)) hb; have HS9 := Lib.hid (HS.out.ext hq); have HR9 := Lib.hid (HR.out.ext hq); have HX9 := Lib.hid (HX.out.trans hq); clear m0 m1 m2 m3 ml r0 r1 r2 r3 rl rf0 rf1 rf2 rf3 HS HR HX; have HS := HS9; have HR := HR9; have HX := HX9; clear HS9 HR9 HX9; obtain ⟨m0, m1, m2, m3, ml⟩ := HS.out.c4; obtain ⟨r0, r1, r2, r3, rl⟩ := HR.out.c4; have rf0 := HR.out.frozen 0; have rf1 := HR.out.frozen 1; have rf2 := HR.out.frozen 2; have rf3 := HR.out.frozen 3; have HZ9 := Lib.hid (HZ.out.ext hq); clear HZ; have HZ := HZ9; clear HZ9; clear hb hq)) | (go_at_call 14; refine Calls.mono (CX.out _ (HRX.out.ext (HX.out.trans (by repeat first | exact zx0 _ | assumption | refine zxa ?_ _ | refine zxd ?_ | refine zxn ?_ _ | refine zxs ?_ (by simp <;> omega) _ | refine zxt ?_ (by assumption))))) ?_; rintro e9 w1 ⟨ZA, Zc, rfl, hsl, hb⟩; have HZ := Lib.hid (SL.mono (base' := w.heap.size + 1 + 1) hsl (by first | exact rl | (have h9 := rl; simp at h9 ⊢; omega))); clear hsl; have hq := zxx HX.out (by repeat first | exact zx0 _ | assumption | refine zxa ?_ _ | refine zxd ?_ | refine zxn ?_ _ | refine zxs ?_ (by simp <;> omega) _ | refine zxt ?_ (by assumption)) hb; have HS9 := Lib.hid (HS.out.ext hq); have HR9 := Lib.hid (HR.out.ext hq); have HX9 := Lib.hid (HX.out.trans hq); clear m0 m1 m2 m3 ml r0 r1 r2 r3 rl rf0 rf1 rf2 rf3 HS HR HX; have HS := HS9; have HR := HR9; have HX := HX9; clear HS9 HR9 HX9; obtain ⟨m0, m1, m2, m3, ml⟩ := HS.out.c4; obtain ⟨r0, r1, r2, r3, rl⟩ := HR.out.c4; have rf0 := HR.out.frozen 0; have rf1 := HR.out.frozen 1; have rf2 := HR.out.frozen 2; have rf3 := HR.out.frozen 3; skip; clear hb hq))
  have hwq : w.heap.size + 1 < w.heap.size + 1 + 1 := by omega
  have HQ := (((HR.out.set_ 0 (.slice ZA xs.length Zc)).set_ 1 (.slice UA ys.length Uc)).set_ 2 (.slice VA ds.length Vc)).set_ 3 (.int .i64 m)
  have hq : LDR ((((w1.setCell ⟨w.heap.size + 1, 0, none⟩ (.slice ZA xs.length Zc)).setCell ⟨w.heap.size + 1, 1, none⟩ (.slice UA ys.length Uc)).setCell ⟨w.heap.size + 1, 2, none⟩ (.slice VA ds.length Vc)).setCell ⟨w.heap.size + 1, 3, none⟩ (.int .i64 m)) ⟨ZA, Zc, xs, UA, Uc, ys, VA, Vc, ds, m⟩ :=
    ⟨ld_ri HZ.out hwq h1, ld_ri HU.out hwq h2, ld_ri HV.out hwq h3⟩
  have HLD := Lib.hid hq
  have g0 := HQ.cell 0 _ rfl; have g1 := HQ.cell 1 _ rfl; have g2 := HQ.cell 2 _ rfl; have g3 := HQ.cell 3 _ rfl
  have hx9 : Ext w _ := (((HX.out.setCell (p := ⟨w.heap.size + 1, 0, none⟩) (by simp) (.slice ZA xs.length Zc)).setCell (p := ⟨w.heap.size + 1, 1, none⟩) (by simp) (.slice UA ys.length Uc)).setCell (p := ⟨w.heap.size + 1, 2, none⟩) (by simp) (.slice VA ds.length Vc)).setCell (p := ⟨w.heap.size + 1, 3, none⟩) (by simp) (.int .i64 m)
  have HX9 := Lib.hid hx9
  clear hq hx9 HQ
  go_wp2
  refine bodyPost_ret (v := .agg #[.slice ZA xs.length Zc, .slice UA ys.length Uc, .slice VA ds.length Vc, .int .i64 m]) (by simp [results, Tryz.results13, go_sem, g0, g1, g2, g3]) rfl (HMK.out ⟨ZA, Zc, xs, UA, Uc, ys, VA, Vc, ds, m⟩ rfl rfl rfl rfl _ _ rfl HLD.out HX9.out)
end Go.Proofs.YtffafbllgdonlaaGreatDoor
