/-
  Walks: few pages, a stand in memory of its own.
-/
import Derived.Test.YtfkjhgcablakgaaGreatDoorStMem
import Derived.Test.YtfkjhgcablakgaaGreatDoorGE
import Derived.Deep.RegionHeld3
namespace Go.Proofs.YtfkjhgcablakgaaGreatDoor
open Go.RowKit
attribute [local go_sem ↓] Go.wp_at_zero Go.wp_at_succ

/-- At most 7 pages, or too many, and no list too long. -/
structure FewS (s : ST) : Prop where
  cs : s.cs.length ≤ 123
  ns : s.ns.length ≤ 7 ∨ 12 < s.ns.length
  up : s.ns.length ≤ 14
  rows : ∀ k, k < s.ns.length → (s.ns.getD k SI.none_).zs.length ≤ 123
set_option maxRecDepth 100000 in
set_option maxHeartbeats 8000000 in
theorem sFew_any (s : ST) (w : World) (hs : SR w s) : Calls Tryz.prog 18 #[s.val] w (fun e w' => (FewS s ∧ e = .returned (.bool true) ∨ ¬ FewS s ∧ e = .returned (.bool false)) ∧ Ext w w') := by
  have hbig := hs.rn.2.1
  have HRN := Lib.hid hs.rn
  have HNO : Hid (¬ (s.cs.length ≤ 123 ∧ (s.ns.length ≤ 7 ∨ 12 < s.ns.length) ∧ s.ns.length ≤ 14) → ¬ FewS s) := Lib.hid fun h k => h ⟨k.cs, k.ns, k.up⟩
  have HNR : Hid (∀ k, k < s.ns.length → 123 < (s.ns.getD k SI.none_).zs.length → ¬ FewS s) := Lib.hid fun k hk hb h => by have := h.rows k hk; omega
  have HYE : Hid (s.cs.length ≤ 123 → (s.ns.length ≤ 7 ∨ 12 < s.ns.length) → s.ns.length ≤ 14 → (∀ k, k < s.ns.length → (s.ns.getD k SI.none_).zs.length ≤ 123) → FewS s) := Lib.hid fun a b c d => ⟨a, b, c, d⟩
  clear hs
  generalize FewS s = FW at *
  obtain ⟨B, d, cs, D, e, ns⟩ := s
  simp only [ST.val] at *
  rcases (show ((123 : Int) < (cs.length : Int)) ∨ (¬ (123 : Int) < (cs.length : Int) ∧ (7 : Int) < (ns.length : Int) ∧ (ns.length : Int) ≤ 12) ∨ (¬ (123 : Int) < (cs.length : Int) ∧ (7 : Int) < (ns.length : Int) ∧ ¬ (ns.length : Int) ≤ 12 ∧ (14 : Int) < (ns.length : Int)) ∨ (¬ (123 : Int) < (cs.length : Int) ∧ (7 : Int) < (ns.length : Int) ∧ ¬ (ns.length : Int) ≤ 12 ∧ ¬ (14 : Int) < (ns.length : Int)) ∨ (¬ (123 : Int) < (cs.length : Int) ∧ ¬ (7 : Int) < (ns.length : Int) ∧ ¬ (14 : Int) < (ns.length : Int)) by omega) with i1 | ⟨i1, i2, i3⟩ | ⟨i1, i2, i3, i4⟩ | ⟨i1, i2, i3, i4⟩ | ⟨i1, i2, i4⟩
  · have HN := Lib.hid (HNO.out (by omega))
    go_enter Tryz.func18, Tryz.ntmps18
    go_wp2
    go_ret
    exact ⟨.inr ⟨HN.out, rfl⟩, (by repeat first | exact yx0 _ | assumption | refine yxa ?_ _ | refine yxd ?_ | refine yxn ?_ _ | refine yxs ?_ (by simp <;> omega) _ | refine yxt ?_ (by assumption))⟩
  · have HN := Lib.hid (HNO.out (by omega))
    go_enter Tryz.func18, Tryz.ntmps18
    go_wp2
    go_ret
    exact ⟨.inr ⟨HN.out, rfl⟩, (by repeat first | exact yx0 _ | assumption | refine yxa ?_ _ | refine yxd ?_ | refine yxn ?_ _ | refine yxs ?_ (by simp <;> omega) _ | refine yxt ?_ (by assumption))⟩
  · have HN := Lib.hid (HNO.out (by omega))
    go_enter Tryz.func18, Tryz.ntmps18
    go_wp2
    go_ret
    exact ⟨.inr ⟨HN.out, rfl⟩, (by repeat first | exact yx0 _ | assumption | refine yxa ?_ _ | refine yxd ?_ | refine yxn ?_ _ | refine yxs ?_ (by simp <;> omega) _ | refine yxt ?_ (by assumption))⟩
  all_goals
    have HY := Lib.hid (HYE.out (by omega) (by omega) (by omega))
    clear HYE HNO
    go_enter Tryz.func18, Tryz.ntmps18
    have HS1 : Hid (Blk (w.alloc (.cells #[.slice B cs.length d, .slice D ns.length e] 45)) w.heap.size 45 #[.slice B cs.length d, .slice D ns.length e]) := Lib.hid (Blk.new w _ _)
    go_wp2
    go_loopw [3] (fun j wr => ∃ k : Nat, k ≤ ns.length ∧ j = .int .i64 (k : Int) ∧ Hid (∀ q, q < k → (ns.getD q SI.none_).zs.length ≤ 123) ∧ Hid (Blk wr w.heap.size 45 #[.slice B cs.length d, .slice D ns.length e]) ∧ Hid (Ext w wr)) (fun j _ => ns.length - (intOf j).toNat)
    case atStart => exact ⟨0, Nat.zero_le _, rfl, Lib.hid (fun j hj => absurd hj (by omega)), HS1, Lib.hid (by repeat first | exact yx0 _ | assumption | refine yxa ?_ _ | refine yxd ?_ | refine yxn ?_ _ | refine yxs ?_ (by simp <;> omega) _ | refine yxt ?_ (by assumption))⟩
    case round =>
      obtain ⟨k, hk, rfl, H0, HS, HX⟩ := hrel
      clear HS1
      obtain ⟨m0, m1, _, _, ml⟩ := HS.out.c2
      by_cases hlt : k < ns.length
      case neg =>
        obtain rfl : k = ns.length := by omega
        have i9 : ¬ (ns.length : Int) < (ns.length : Int) := by omega
        have HYY := Lib.hid (HY.out H0.out)
        clear hlt
        go_wp2
        go_ret
        exact ⟨.inl ⟨HYY.out, rfl⟩, HX.out.trans (by repeat first | exact yx0 _ | assumption | refine yxa ?_ _ | refine yxd ?_ | refine yxn ?_ _ | refine yxs ?_ (by simp <;> omega) _ | refine yxt ?_ (by assumption))⟩
      case pos =>
        have i9 : (k : Int) < (ns.length : Int) := by omega
        obtain ⟨b, off, rfl, hbw, hcell⟩ := (HRN.out.ext HX.out).2.2.1 (by omega)
        have ck := hcell k hlt
        have HRK := Lib.hid (HNR.out k hlt)
        have HNX : Hid ((ns.getD k SI.none_).zs.length ≤ 123 → ∀ q, q < k + 1 → (ns.getD q SI.none_).zs.length ≤ 123) := Lib.hid fun h q hq => by
          rcases Nat.lt_or_ge q k with h9 | h9
          · exact H0.out q h9
          · obtain rfl : q = k := by omega
            exact h
        clear hcell H0 HNR
        generalize ns.getD k SI.none_ = s at *
        obtain ⟨sA, sc, zs⟩ := s
        simp only [SI.val] at *
        by_cases hb : 123 < zs.length
        case pos =>
          have i10 : (123 : Int) < (zs.length : Int) := by omega
          have HN := Lib.hid (HRK.out hb)
          go_wp2
          go_ret
          exact ⟨.inr ⟨HN.out, rfl⟩, HX.out.trans (by repeat first | exact yx0 _ | assumption | refine yxa ?_ _ | refine yxd ?_ | refine yxn ?_ _ | refine yxs ?_ (by simp <;> omega) _ | refine yxt ?_ (by assumption))⟩
        case neg =>
          have i10 : ¬ (123 : Int) < (zs.length : Int) := by omega
          have HN2 := Lib.hid (HNX.out (by omega))
          go_wp2
          go_roundw
          case rel => exact ⟨k + 1, by omega, by go_num, HN2, HS, HX⟩
          case measure => simp [intOf] <;> omega
theorem owns_far {W W' : World} {base sz n : Nat} {t : TypeId} {v : Value} {cs : List Value} (h : W.ownsRow base t sz v n cs) (hh : ∀ k, base ≤ k → W'.heap[k]? = W.heap[k]?) : W'.ownsRow base t sz v n cs :=
  ⟨h.1, h.2.imp id fun ⟨g, cap, cur, hv, hb, hg, rest⟩ => ⟨g, cap, cur, hv, hb, (hh g hb).trans hg, rest⟩⟩
theorem stand_made {W2 w2 : World} {r base zc lc : Nat} {ZA LA : Option Addr} {cs : List Int} {tk : List SI} {zs : List (List Int)} {x y : Value} (hz : SL w2 base ZA zc cs) (hb : r < base) (hc : Cop W2 w2 zs zs.length (.slice LA tk.length lc) tk) (hb2 : r < W2.heap.size) (h1 : cs.length ≤ 1000) (h2 : zs.length ≤ 1000) :
    SR ((w2.setCell ⟨r, 0, none⟩ x).setCell ⟨r, 1, none⟩ y) ⟨ZA, zc, cs, LA, lc, tk⟩ ∧ tk.map SI.zs = zs := by
  have far : ∀ k, k ≠ r → ((w2.setCell ⟨r, 0, none⟩ x).setCell ⟨r, 1, none⟩ y).heap[k]? = w2.heap[k]? := fun k hk => by
    rw [Below.heap_setCell _ _ _ _ hk, Below.heap_setCell _ _ _ _ hk]
  have hz2 := SL.of_own (owns_far hz.own fun k hk => far k (by omega)) (by omega)
  have hl := owns_far hc.own fun k hk => far k (by omega)
  obtain ⟨A', c', he, hr⟩ := OwnL.form hl (by rw [hc.len]; omega) (fun s hs => by
    obtain ⟨h3, h4⟩ := hc.rows s hs
    exact (SL.of_own (owns_far h3.own fun k hk => far k (by omega)) h4).ri)
  obtain ⟨h5, _, _⟩ := Value.slice.inj he
  exact ⟨⟨hz2.ri, by show RL _ LA tk.length tk; rw [h5]; exact hr⟩, by rw [hc.same, List.take_length]⟩
/-- A stand of one's own with the same numbers. -/
def RetST (s : ST) (w : World) (e : Ending) (w' : World) : Prop := ∃ t : ST, e = .returned t.val ∧ SR w' t ∧ t.cs = s.cs ∧ t.zs = s.zs ∧ Ext w w'
set_option maxRecDepth 100000 in
set_option maxHeartbeats 8000000 in
theorem stand_any (s : ST) (w : World) (hs : SR w s) (hf : FewS s) : Calls Tryz.prog 20 #[s.val] w (RetST s w) := by
  have HRC := Lib.hid hs.rc; have HRN := Lib.hid hs.rn
  have hc := hf.cs
  have hn := hf.up
  have hzl := s.zlen
  have CI := Lib.hid (fun W h => copyInts_any s.A s.c s.cs W h (by omega))
  have CL := Lib.hid (fun W h => copyLists_own s.B s.d s.ns W h (by omega) (fun k hk => Nat.le_trans (hf.rows k hk) (by decide)))
  have HZL : Hid (s.zs.length ≤ 1000) := Lib.hid (by omega)
  have HZS : Hid (s.ns.map SI.zs = s.zs) := Lib.hid rfl
  have HMK : Hid (∀ t : ST, t.cs = s.cs → t.zs = s.zs → ∀ e w', e = .returned t.val → SR w' t → Ext w w' → RetST s w e w') := Lib.hid fun t h1 h2 e w' h3 h4 h5 => ⟨t, h3, h4, h1, h2, h5⟩
  clear hs hf
  rw [HZS.out] at CL
  generalize s.zs = zs at *
  generalize RetST s w = RR at *
  obtain ⟨B, d, cs, D, e, ns⟩ := s
  simp only [ST.val] at *
  go_enter Tryz.func20, Tryz.ntmps20
  obtain ⟨wq, hwq⟩ : ∃ wq, (w.alloc (.cells #[.slice B cs.length d, .slice D ns.length e] 45)).alloc (.cells #[.slice none 0 0, .slice none 0 0] 45) = wq := ⟨_, rfl⟩
  have HS : Hid (Blk wq w.heap.size 45 #[.slice B cs.length d, .slice D ns.length e]) := Lib.hid (by rw [← hwq]; exact (Blk.new w _ _).alloc _)
  have HR : Hid (Blk wq (w.heap.size + 1) 45 #[.slice none 0 0, .slice none 0 0]) := Lib.hid (by rw [← hwq]; exact Blk.new1 w _ _ _)
  have HX : Hid (Ext w wq) := Lib.hid (by rw [← hwq]; exact (by repeat first | exact yx0 _ | assumption | refine yxa ?_ _ | refine yxd ?_ | refine yxn ?_ _ | refine yxs ?_ (by simp <;> omega) _ | refine yxt ?_ (by assumption)))
  have HWS : Hid (w.heap.size + 1 < wq.heap.size) := Lib.hid HR.out.lt
  go_upto_region 1 with fail
  (try rw [hwq])
  clear hwq
  obtain ⟨m0, m1, _, _, ml⟩ := HS.out.c2; obtain ⟨r0, r1, rf0, rf1, rl⟩ := HR.out.c2
  go_region_held3 (fun W => (W.cell? ⟨w.heap.size, 0, none⟩ = some (.slice B cs.length d) ∧ W.cell? ⟨w.heap.size, 1, none⟩ = some (.slice D ns.length e)) ∧ ((W.cell? ⟨w.heap.size + 1, 0, none⟩).isSome = true ∧ (W.cell? ⟨w.heap.size + 1, 1, none⟩).isSome = true ∧ W.frozen? ⟨w.heap.size + 1, 0, none⟩ = false ∧ W.frozen? ⟨w.heap.size + 1, 1, none⟩ = false) ∧ w.heap.size + 1 < W.heap.size) (first | exact ⟨⟨m0, m1⟩, ⟨by rw [r0]; rfl, by rw [r1]; rfl, rf0, rf1⟩, rl⟩ | (have HQ := (HR.out.set_ 0 (.slice ZA cs.length zc)).set_ 1 (.slice LA tk.length lc); have HP := (HS.out.far (p := ⟨w.heap.size + 1, 0, none⟩) (by simp) (.slice ZA cs.length zc)).far (p := ⟨w.heap.size + 1, 1, none⟩) (by simp) (.slice LA tk.length lc); exact ⟨⟨HP.cell 0 _ rfl, HP.cell 1 _ rfl⟩, ⟨by rw [HQ.cell 0 _ rfl]; rfl, by rw [HQ.cell 1 _ rfl]; rfl, HQ.frozen 0, HQ.frozen 1⟩, HQ.lt⟩) | go_keep) (first | (go_at_call 14; refine Calls.mono (CI.out _ (HRC.out.ext (HX.out.trans (by repeat first | exact yx0 _ | assumption | refine yxa ?_ _ | refine yxd ?_ | refine yxn ?_ _ | refine yxs ?_ (by simp <;> omega) _ | refine yxt ?_ (by assumption))))) ?_; rintro e9 w1 ⟨ZA, zc, rfl, hsl, hb⟩; have HQ := Lib.hid (Ext.trans (a := wq) (by repeat first | exact yx0 _ | assumption | refine yxa ?_ _ | refine yxd ?_ | refine yxn ?_ _ | refine yxs ?_ (by simp <;> omega) _ | refine yxt ?_ (by assumption)) hb); have HZ := Lib.hid (SL.mono hsl (Ext.size (a := wq) (by repeat first | exact yx0 _ | assumption | refine yxa ?_ _ | refine yxd ?_ | refine yxn ?_ _ | refine yxs ?_ (by simp <;> omega) _ | refine yxt ?_ (by assumption)))); have HS9 := Lib.hid (HS.out.ext (Ext.trans (by repeat first | exact yx0 _ | assumption | refine yxa ?_ _ | refine yxd ?_ | refine yxn ?_ _ | refine yxs ?_ (by simp <;> omega) _ | refine yxt ?_ (by assumption)) hb)); have HR9 := Lib.hid (HR.out.ext (Ext.trans (by repeat first | exact yx0 _ | assumption | refine yxa ?_ _ | refine yxd ?_ | refine yxn ?_ _ | refine yxs ?_ (by simp <;> omega) _ | refine yxt ?_ (by assumption)) hb)); have HX9 := Lib.hid (HX.out.trans (Ext.trans (by repeat first | exact yx0 _ | assumption | refine yxa ?_ _ | refine yxd ?_ | refine yxn ?_ _ | refine yxs ?_ (by simp <;> omega) _ | refine yxt ?_ (by assumption)) hb)); clear m0 m1 ml r0 r1 rf0 rf1 rl HS HR HX; have HS := HS9; have HR := HR9; have HX := HX9; clear HS9 HR9 HX9; obtain ⟨m0, m1, _, _, ml⟩ := HS.out.c2; obtain ⟨r0, r1, rf0, rf1, rl⟩ := HR.out.c2; clear hsl hb) | (go_at_call 63; refine Calls.mono (CL.out _ (HRN.out.ext (HX.out.trans (by repeat first | exact yx0 _ | assumption | refine yxa ?_ _ | refine yxd ?_ | refine yxn ?_ _ | refine yxs ?_ (by simp <;> omega) _ | refine yxt ?_ (by assumption))))) ?_; rintro e9 w2 ⟨LA, lc, tk, rfl, hcp⟩; have hb := hcp.ext; have HZ2 := Lib.hid (HZ.out.ext (Ext.trans (by repeat first | exact yx0 _ | assumption | refine yxa ?_ _ | refine yxd ?_ | refine yxn ?_ _ | refine yxs ?_ (by simp <;> omega) _ | refine yxt ?_ (by assumption)) hb)); have HQ2 := Lib.hid (Ext.size (Ext.trans HQ.out (by repeat first | exact yx0 _ | assumption | refine yxa ?_ _ | refine yxd ?_ | refine yxn ?_ _ | refine yxs ?_ (by simp <;> omega) _ | refine yxt ?_ (by assumption)))); have HCP := Lib.hid hcp; have HS9 := Lib.hid (HS.out.ext (Ext.trans (by repeat first | exact yx0 _ | assumption | refine yxa ?_ _ | refine yxd ?_ | refine yxn ?_ _ | refine yxs ?_ (by simp <;> omega) _ | refine yxt ?_ (by assumption)) hb)); have HR9 := Lib.hid (HR.out.ext (Ext.trans (by repeat first | exact yx0 _ | assumption | refine yxa ?_ _ | refine yxd ?_ | refine yxn ?_ _ | refine yxs ?_ (by simp <;> omega) _ | refine yxt ?_ (by assumption)) hb)); have HX9 := Lib.hid (HX.out.trans (Ext.trans (by repeat first | exact yx0 _ | assumption | refine yxa ?_ _ | refine yxd ?_ | refine yxn ?_ _ | refine yxs ?_ (by simp <;> omega) _ | refine yxt ?_ (by assumption)) hb)); clear m0 m1 ml r0 r1 rf0 rf1 rl HS HR HX; have HS := HS9; have HR := HR9; have HX := HX9; clear HS9 HR9 HX9; obtain ⟨m0, m1, _, _, ml⟩ := HS.out.c2; obtain ⟨r0, r1, rf0, rf1, rl⟩ := HR.out.c2; clear hcp hb HZ))
  obtain ⟨hsr, hzs⟩ := stand_made (r := w.heap.size + 1) (x := .slice ZA cs.length zc) (y := .slice LA tk.length lc) HZ2.out (by have := HWS.out; omega) HCP.out (by have := HWS.out; have := HQ2.out; omega) (by omega) HZL.out
  have HSR := Lib.hid hsr; have HZZ := Lib.hid hzs
  clear hsr hzs
  go_wp2
  refine bodyPost_ret (v := .agg #[.slice ZA cs.length zc, .slice LA tk.length lc]) (by simp [results, Tryz.results20, go_sem, r0, r1]) rfl (HMK.out ⟨ZA, zc, cs, LA, lc, tk⟩ rfl HZZ.out _ _ rfl HSR.out (by have hx9 := HX.out; exact (by repeat first | exact yx0 _ | assumption | refine yxa ?_ _ | refine yxd ?_ | refine yxn ?_ _ | refine yxs ?_ (by simp <;> omega) _ | refine yxt ?_ (by assumption))))
end Go.Proofs.YtfkjhgcablakgaaGreatDoor
