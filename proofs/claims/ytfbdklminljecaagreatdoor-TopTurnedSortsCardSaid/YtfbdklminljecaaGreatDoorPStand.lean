/-
  Walks: a right stand (page.standOf), the error of a set, what a set lacks.
-/
import Derived.Test.YtfbdklminljecaaGreatDoorStMem
import Derived.Test.YtfbdklminljecaaGreatDoorGF
import Derived.Test.YtfbdklminljecaaGreatDoorGG
namespace Go.Proofs.YtfbdklminljecaaGreatDoor
open Go.RowKit

def stV (f : FT) (s : ST) : Value := if standE f s.cs s.zs = 0 then s.val else .agg #[.slice none 0 0, .slice none 0 0]
/-- What of a set is lacking: the sort and true; 0 and false. -/
def lacksV (s : ST) (set : List Int) : Value := if shortE s.cs s.zs set = 0 then .tuple #[.int .i64 0, .bool false] else .tuple #[.int .i64 (shortE s.cs s.zs set - 1), .bool true]
set_option maxRecDepth 100000 in
set_option maxHeartbeats 8000000 in
theorem pStandOf_any (f : FT) (A : Option Addr) (c : Nat) (s : ST) (w : World) (hf : FR w A c f) (hs : SR w s) :
    Calls Tryz.prog 28 #[f.val A c, s.val] w (Ret (.tuple #[stV f s, .int .i64 (standE f s.cs s.zs)]) w) := by
  have hbig := hs.rn.2.1
  have cC := fun X e zs W h1 h2 => checkCase_any f A c X e zs W h1 h2
  have HF := Lib.hid hf; have HRC := Lib.hid hs.rc; have HRN := Lib.hid hs.rn
  have HSV : Hid (∀ z, standE f s.cs s.zs = z → stV f s = if z = 0 then s.val else .agg #[.slice none 0 0, .slice none 0 0]) := Lib.hid fun z hz => by rw [← hz]; rfl
  have HE1 := Lib.hid (stE1 (f := f) (s := s))
  have HE2 := Lib.hid (stE2 (f := f) (s := s))
  have HE3 := Lib.hid (fun h h2 k => stE3 (f := f) (s := s) h h2 (k := k))
  have HE4 := Lib.hid (stE4 (f := f) (s := s))
  clear hf hs
  generalize stV f s = V at *
  generalize standE f s.cs s.zs = E at *
  obtain ⟨B, d, cs, D, e, ns⟩ := s
  simp only [ST.val] at *
  by_cases h1 : caseErr f cs = 0
  case neg =>
    have hE := HE1.out h1
    have HV : Hid (V = .agg #[.slice none 0 0, .slice none 0 0]) := Lib.hid (by rw [HSV.out _ hE, if_neg h1])
    have e0 : (caseErr f cs != 0) = true := by simpa using h1
    have cC1 := fun W h1 h2 => cC B d cs W h1 h2
    clear HE1 HE2 HE3 HE4 HSV cC h1
    subst hE
    generalize caseErr f cs = z at *
    obtain ⟨name, body, ss⟩ := f
    simp only [FT.val] at *
    have CC := Lib.hid cC1; clear cC1
    go_enter Tryz.func28, Tryz.ntmps28
    obtain ⟨wq, hwq⟩ : ∃ wq, ((w.alloc (.cells #[.string name, .int .i64 body, .slice A ss.length c] 24)).alloc (.cells #[.slice B cs.length d, .slice D ns.length e] 32)).alloc (.cells #[.slice none 0 0, .slice none 0 0] 69) = wq := ⟨_, rfl⟩
    have HB : Hid (Blk wq w.heap.size 24 #[.string name, .int .i64 body, .slice A ss.length c]) := Lib.hid (by rw [← hwq]; exact ((Blk.new w _ _).alloc _).alloc _)
    have HS : Hid (Blk wq (w.heap.size + 1) 32 #[.slice B cs.length d, .slice D ns.length e]) := Lib.hid (by rw [← hwq]; exact (Blk.new1 w _ _ _).alloc _)
    have HR : Hid (Blk wq (w.heap.size + 1 + 1) 69 #[.slice none 0 0, .slice none 0 0]) := Lib.hid (by rw [← hwq]; exact Blk.new2 w _ _ _ _)
    have HX : Hid (Ext w wq) := Lib.hid (by rw [← hwq]; exact (by repeat first | exact yx0 _ | assumption | refine yxa ?_ _ | refine yxd ?_ | refine yxn ?_ _ | refine yxs ?_ (by simp <;> omega) _ | refine yxt ?_ (by assumption)))
    go_upto_region 1 with fail
    (try rw [hwq])
    clear hwq
    obtain ⟨k0, k1, k2, kl⟩ := HB.out.c3; obtain ⟨m0, m1, _, _, ml⟩ := HS.out.c2; obtain ⟨r0, r1, rf0, rf1, rl⟩ := HR.out.c2
    go_wp2_with (first | (go_at_call 24; refine Calls.mono (CC.out _ (HF.out.ext (HX.out.trans (by repeat first | exact yx0 _ | assumption | refine yxa ?_ _ | refine yxd ?_ | refine yxn ?_ _ | refine yxs ?_ (by simp <;> omega) _ | refine yxt ?_ (by assumption)))) (HRC.out.ext (HX.out.trans (by repeat first | exact yx0 _ | assumption | refine yxa ?_ _ | refine yxd ?_ | refine yxn ?_ _ | refine yxs ?_ (by simp <;> omega) _ | refine yxt ?_ (by assumption))))) ?_; rintro e9 w1 ⟨rfl, hb⟩; have HB9 := Lib.hid (HB.out.ext (Ext.trans (by repeat first | exact yx0 _ | assumption | refine yxa ?_ _ | refine yxd ?_ | refine yxn ?_ _ | refine yxs ?_ (by simp <;> omega) _ | refine yxt ?_ (by assumption)) hb)); have HS9 := Lib.hid (HS.out.ext (Ext.trans (by repeat first | exact yx0 _ | assumption | refine yxa ?_ _ | refine yxd ?_ | refine yxn ?_ _ | refine yxs ?_ (by simp <;> omega) _ | refine yxt ?_ (by assumption)) hb)); have HR9 := Lib.hid (HR.out.ext (Ext.trans (by repeat first | exact yx0 _ | assumption | refine yxa ?_ _ | refine yxd ?_ | refine yxn ?_ _ | refine yxs ?_ (by simp <;> omega) _ | refine yxt ?_ (by assumption)) hb)); have HX9 := Lib.hid (HX.out.trans (Ext.trans (by repeat first | exact yx0 _ | assumption | refine yxa ?_ _ | refine yxd ?_ | refine yxn ?_ _ | refine yxs ?_ (by simp <;> omega) _ | refine yxt ?_ (by assumption)) hb)); clear k0 k1 k2 kl m0 m1 ml r0 r1 rf0 rf1 rl HB HS HR HX; have HB := HB9; have HS := HS9; have HR := HR9; have HX := HX9; clear HB9 HS9 HR9 HX9; obtain ⟨k0, k1, k2, kl⟩ := HB.out.c3; obtain ⟨m0, m1, _, _, ml⟩ := HS.out.c2; obtain ⟨r0, r1, rf0, rf1, rl⟩ := HR.out.c2; clear hb))
    refine bodyPost_ret (v := .tuple #[.agg #[.slice none 0 0, .slice none 0 0], .int .i64 z]) (by simp [results, Tryz.results28, go_sem, r0, r1]) rfl (Ret.mk' (by rw [HV.out]) (by have hx9 := HX.out; exact (by repeat first | exact yx0 _ | assumption | refine yxa ?_ _ | refine yxd ?_ | refine yxn ?_ _ | refine yxs ?_ (by simp <;> omega) _ | refine yxt ?_ (by assumption))))
  case pos =>
  have cC1 := fun W h1 h2 => cC B d cs W h1 h2
  rw [h1] at cC1
  by_cases h2 : 12 < ns.length
  case pos =>
    have hE := HE2.out h1 h2
    have HV : Hid (V = .agg #[.slice none 0 0, .slice none 0 0]) := Lib.hid (by rw [HSV.out _ hE, if_neg (by decide)])
    have i2 : (12 : Int) < (ns.length : Int) := by omega
    clear HE1 HE2 HE3 HE4 HSV cC h1 h2
    subst hE
    obtain ⟨name, body, ss⟩ := f
    simp only [FT.val] at *
    have CC := Lib.hid cC1; clear cC1
    go_enter Tryz.func28, Tryz.ntmps28
    obtain ⟨wq, hwq⟩ : ∃ wq, ((w.alloc (.cells #[.string name, .int .i64 body, .slice A ss.length c] 24)).alloc (.cells #[.slice B cs.length d, .slice D ns.length e] 32)).alloc (.cells #[.slice none 0 0, .slice none 0 0] 69) = wq := ⟨_, rfl⟩
    have HB : Hid (Blk wq w.heap.size 24 #[.string name, .int .i64 body, .slice A ss.length c]) := Lib.hid (by rw [← hwq]; exact ((Blk.new w _ _).alloc _).alloc _)
    have HS : Hid (Blk wq (w.heap.size + 1) 32 #[.slice B cs.length d, .slice D ns.length e]) := Lib.hid (by rw [← hwq]; exact (Blk.new1 w _ _ _).alloc _)
    have HR : Hid (Blk wq (w.heap.size + 1 + 1) 69 #[.slice none 0 0, .slice none 0 0]) := Lib.hid (by rw [← hwq]; exact Blk.new2 w _ _ _ _)
    have HX : Hid (Ext w wq) := Lib.hid (by rw [← hwq]; exact (by repeat first | exact yx0 _ | assumption | refine yxa ?_ _ | refine yxd ?_ | refine yxn ?_ _ | refine yxs ?_ (by simp <;> omega) _ | refine yxt ?_ (by assumption)))
    go_upto_region 1 with fail
    (try rw [hwq])
    clear hwq
    obtain ⟨k0, k1, k2, kl⟩ := HB.out.c3; obtain ⟨m0, m1, _, _, ml⟩ := HS.out.c2; obtain ⟨r0, r1, rf0, rf1, rl⟩ := HR.out.c2
    go_wp2_with (first | (go_at_call 24; refine Calls.mono (CC.out _ (HF.out.ext (HX.out.trans (by repeat first | exact yx0 _ | assumption | refine yxa ?_ _ | refine yxd ?_ | refine yxn ?_ _ | refine yxs ?_ (by simp <;> omega) _ | refine yxt ?_ (by assumption)))) (HRC.out.ext (HX.out.trans (by repeat first | exact yx0 _ | assumption | refine yxa ?_ _ | refine yxd ?_ | refine yxn ?_ _ | refine yxs ?_ (by simp <;> omega) _ | refine yxt ?_ (by assumption))))) ?_; rintro e9 w1 ⟨rfl, hb⟩; have HB9 := Lib.hid (HB.out.ext (Ext.trans (by repeat first | exact yx0 _ | assumption | refine yxa ?_ _ | refine yxd ?_ | refine yxn ?_ _ | refine yxs ?_ (by simp <;> omega) _ | refine yxt ?_ (by assumption)) hb)); have HS9 := Lib.hid (HS.out.ext (Ext.trans (by repeat first | exact yx0 _ | assumption | refine yxa ?_ _ | refine yxd ?_ | refine yxn ?_ _ | refine yxs ?_ (by simp <;> omega) _ | refine yxt ?_ (by assumption)) hb)); have HR9 := Lib.hid (HR.out.ext (Ext.trans (by repeat first | exact yx0 _ | assumption | refine yxa ?_ _ | refine yxd ?_ | refine yxn ?_ _ | refine yxs ?_ (by simp <;> omega) _ | refine yxt ?_ (by assumption)) hb)); have HX9 := Lib.hid (HX.out.trans (Ext.trans (by repeat first | exact yx0 _ | assumption | refine yxa ?_ _ | refine yxd ?_ | refine yxn ?_ _ | refine yxs ?_ (by simp <;> omega) _ | refine yxt ?_ (by assumption)) hb)); clear k0 k1 k2 kl m0 m1 ml r0 r1 rf0 rf1 rl HB HS HR HX; have HB := HB9; have HS := HS9; have HR := HR9; have HX := HX9; clear HB9 HS9 HR9 HX9; obtain ⟨k0, k1, k2, kl⟩ := HB.out.c3; obtain ⟨m0, m1, _, _, ml⟩ := HS.out.c2; obtain ⟨r0, r1, rf0, rf1, rl⟩ := HR.out.c2; clear hb))
    refine bodyPost_ret (v := .tuple #[.agg #[.slice none 0 0, .slice none 0 0], .int .i64 8]) (by simp [results, Tryz.results28, go_sem, r0, r1]) rfl (Ret.mk' (by rw [HV.out]) (by have hx9 := HX.out; exact (by repeat first | exact yx0 _ | assumption | refine yxa ?_ _ | refine yxd ?_ | refine yxn ?_ _ | refine yxs ?_ (by simp <;> omega) _ | refine yxt ?_ (by assumption))))
  case neg =>
  have i2 : ¬ (12 : Int) < (ns.length : Int) := by omega
  have HH := Lib.hid (fun k h0 hk hb => HE3.out h1 h2 k h0 hk hb)
  have HZ := Lib.hid (fun h0 => HE4.out h1 h2 h0)
  clear HE1 HE2 HE3 HE4 h1 h2
  obtain ⟨name, body, ss⟩ := f
  simp only [FT.val] at *
  have CC := Lib.hid cC1; have CR := Lib.hid cC
  clear cC1 cC
  go_enter Tryz.func28, Tryz.ntmps28
  obtain ⟨wq, hwq⟩ : ∃ wq, ((w.alloc (.cells #[.string name, .int .i64 body, .slice A ss.length c] 24)).alloc (.cells #[.slice B cs.length d, .slice D ns.length e] 32)).alloc (.cells #[.slice none 0 0, .slice none 0 0] 69) = wq := ⟨_, rfl⟩
  have HB : Hid (Blk wq w.heap.size 24 #[.string name, .int .i64 body, .slice A ss.length c]) := Lib.hid (by rw [← hwq]; exact ((Blk.new w _ _).alloc _).alloc _)
  have HS : Hid (Blk wq (w.heap.size + 1) 32 #[.slice B cs.length d, .slice D ns.length e]) := Lib.hid (by rw [← hwq]; exact (Blk.new1 w _ _ _).alloc _)
  have HR : Hid (Blk wq (w.heap.size + 1 + 1) 69 #[.slice none 0 0, .slice none 0 0]) := Lib.hid (by rw [← hwq]; exact Blk.new2 w _ _ _ _)
  have HX : Hid (Ext w wq) := Lib.hid (by rw [← hwq]; exact (by repeat first | exact yx0 _ | assumption | refine yxa ?_ _ | refine yxd ?_ | refine yxn ?_ _ | refine yxs ?_ (by simp <;> omega) _ | refine yxt ?_ (by assumption)))
  go_upto_region 1 with fail
  (try rw [hwq])
  clear hwq
  obtain ⟨k0, k1, k2, kl⟩ := HB.out.c3; obtain ⟨m0, m1, _, _, ml⟩ := HS.out.c2; obtain ⟨r0, r1, rf0, rf1, rl⟩ := HR.out.c2
  go_wp2_with (first | (go_at_call 24; refine Calls.mono (CC.out _ (HF.out.ext (HX.out.trans (by repeat first | exact yx0 _ | assumption | refine yxa ?_ _ | refine yxd ?_ | refine yxn ?_ _ | refine yxs ?_ (by simp <;> omega) _ | refine yxt ?_ (by assumption)))) (HRC.out.ext (HX.out.trans (by repeat first | exact yx0 _ | assumption | refine yxa ?_ _ | refine yxd ?_ | refine yxn ?_ _ | refine yxs ?_ (by simp <;> omega) _ | refine yxt ?_ (by assumption))))) ?_; rintro e9 w1 ⟨rfl, hb⟩; have HB9 := Lib.hid (HB.out.ext (Ext.trans (by repeat first | exact yx0 _ | assumption | refine yxa ?_ _ | refine yxd ?_ | refine yxn ?_ _ | refine yxs ?_ (by simp <;> omega) _ | refine yxt ?_ (by assumption)) hb)); have HS9 := Lib.hid (HS.out.ext (Ext.trans (by repeat first | exact yx0 _ | assumption | refine yxa ?_ _ | refine yxd ?_ | refine yxn ?_ _ | refine yxs ?_ (by simp <;> omega) _ | refine yxt ?_ (by assumption)) hb)); have HR9 := Lib.hid (HR.out.ext (Ext.trans (by repeat first | exact yx0 _ | assumption | refine yxa ?_ _ | refine yxd ?_ | refine yxn ?_ _ | refine yxs ?_ (by simp <;> omega) _ | refine yxt ?_ (by assumption)) hb)); have HX9 := Lib.hid (HX.out.trans (Ext.trans (by repeat first | exact yx0 _ | assumption | refine yxa ?_ _ | refine yxd ?_ | refine yxn ?_ _ | refine yxs ?_ (by simp <;> omega) _ | refine yxt ?_ (by assumption)) hb)); clear k0 k1 k2 kl m0 m1 ml r0 r1 rf0 rf1 rl HB HS HR HX; have HB := HB9; have HS := HS9; have HR := HR9; have HX := HX9; clear HB9 HS9 HR9 HX9; obtain ⟨k0, k1, k2, kl⟩ := HB.out.c3; obtain ⟨m0, m1, _, _, ml⟩ := HS.out.c2; obtain ⟨r0, r1, rf0, rf1, rl⟩ := HR.out.c2; clear hb))
  have HB1 := HB; have HS1 := HS; have HR1 := HR; have HX1 := HX
  clear k0 k1 k2 kl m0 m1 ml r0 r1 rf0 rf1 rl HB HS HR HX
  go_loopw [26] (fun j wr => ∃ k : Nat, k ≤ ns.length ∧ j = .int .i64 (k : Int) ∧ Hid (∀ j, j < k → caseErr ⟨name, body, ss⟩ (ns.getD j SI.none_).zs = 0) ∧ Hid (Blk wr w.heap.size 24 #[.string name, .int .i64 body, .slice A ss.length c]) ∧ Hid (Blk wr (w.heap.size + 1) 32 #[.slice B cs.length d, .slice D ns.length e]) ∧ Hid (Blk wr (w.heap.size + 1 + 1) 69 #[.slice none 0 0, .slice none 0 0]) ∧ Hid (Ext w wr)) (fun j _ => ns.length - (intOf j).toNat)
  case atStart => exact ⟨0, Nat.zero_le _, rfl, Lib.hid (fun j hj => absurd hj (by omega)), HB1, HS1, HR1, HX1⟩
  case round =>
    obtain ⟨k, hk, rfl, H0, HB, HS, HR, HX⟩ := hrel
    clear HB1 HS1 HR1 HX1
    obtain ⟨k0, k1, k2, kl⟩ := HB.out.c3; obtain ⟨m0, m1, _, _, ml⟩ := HS.out.c2; obtain ⟨r0, r1, rf0, rf1, rl⟩ := HR.out.c2
    by_cases hlt : k < ns.length
    case neg =>
      obtain rfl : k = ns.length := by omega
      have i3 : ¬ (ns.length : Int) < (ns.length : Int) := by omega
      have hE := HZ.out H0.out
      have HV : Hid (V = .agg #[.slice B cs.length d, .slice D ns.length e]) := Lib.hid (by rw [HSV.out _ hE, if_pos rfl])
      clear HZ HH HSV H0 hlt
      subst hE
      go_wp2
      refine bodyPost_ret (v := .tuple #[.agg #[.slice B cs.length d, .slice D ns.length e], .int .i64 0]) (by simp [results, Tryz.results28, go_sem, r0, r1]) rfl (Ret.mk' (by rw [HV.out]) (by have hx9 := HX.out; exact (by repeat first | exact yx0 _ | assumption | refine yxa ?_ _ | refine yxd ?_ | refine yxn ?_ _ | refine yxs ?_ (by simp <;> omega) _ | refine yxt ?_ (by assumption))))
    case pos =>
      have i3 : (k : Int) < (ns.length : Int) := by omega
      obtain ⟨b, off, rfl, hbw, hcell⟩ := (HRN.out.ext HX.out).2.2.1 (by omega)
      have hri := HRN.out.2.2.2 k hlt
      have ci := hcell k hlt
      have HHK := Lib.hid (fun hb => HH.out k H0.out hlt hb)
      have HNX : Hid (caseErr ⟨name, body, ss⟩ (ns.getD k SI.none_).zs = 0 → ∀ j, j < k + 1 → caseErr ⟨name, body, ss⟩ (ns.getD j SI.none_).zs = 0) := Lib.hid fun h j hj => by
        rcases Nat.lt_or_ge j k with h9 | h9
        · exact H0.out j h9
        · obtain rfl : j = k := by omega
          exact h
      clear hcell HH HZ H0
      generalize ns.getD k SI.none_ = s at *
      obtain ⟨sA, sc, zs⟩ := s
      simp only [SI.val] at *
      have HSW := Lib.hid hri
      have cK := fun W h1 h2 => CR.out sA sc zs W h1 h2
      clear hri
      by_cases hz : caseErr ⟨name, body, ss⟩ zs = 0
      case neg =>
        have hE := HHK.out hz
        have HV : Hid (V = .agg #[.slice none 0 0, .slice none 0 0]) := Lib.hid (by rw [HSV.out _ hE, if_neg hz])
        have e0 : (caseErr ⟨name, body, ss⟩ zs != 0) = true := by simpa using hz
        clear HHK HNX HSV hz
        subst hE
        generalize caseErr ⟨name, body, ss⟩ zs = z at *
        have CK := Lib.hid cK; clear cK
        go_wp2_with (first | (go_at_call 24; refine Calls.mono (CK.out _ (HF.out.ext (HX.out.trans (by repeat first | exact yx0 _ | assumption | refine yxa ?_ _ | refine yxd ?_ | refine yxn ?_ _ | refine yxs ?_ (by simp <;> omega) _ | refine yxt ?_ (by assumption)))) (HSW.out.ext (HX.out.trans (by repeat first | exact yx0 _ | assumption | refine yxa ?_ _ | refine yxd ?_ | refine yxn ?_ _ | refine yxs ?_ (by simp <;> omega) _ | refine yxt ?_ (by assumption))))) ?_; rintro e9 w1 ⟨rfl, hb⟩; have HB9 := Lib.hid (HB.out.ext (Ext.trans (by repeat first | exact yx0 _ | assumption | refine yxa ?_ _ | refine yxd ?_ | refine yxn ?_ _ | refine yxs ?_ (by simp <;> omega) _ | refine yxt ?_ (by assumption)) hb)); have HS9 := Lib.hid (HS.out.ext (Ext.trans (by repeat first | exact yx0 _ | assumption | refine yxa ?_ _ | refine yxd ?_ | refine yxn ?_ _ | refine yxs ?_ (by simp <;> omega) _ | refine yxt ?_ (by assumption)) hb)); have HR9 := Lib.hid (HR.out.ext (Ext.trans (by repeat first | exact yx0 _ | assumption | refine yxa ?_ _ | refine yxd ?_ | refine yxn ?_ _ | refine yxs ?_ (by simp <;> omega) _ | refine yxt ?_ (by assumption)) hb)); have HX9 := Lib.hid (HX.out.trans (Ext.trans (by repeat first | exact yx0 _ | assumption | refine yxa ?_ _ | refine yxd ?_ | refine yxn ?_ _ | refine yxs ?_ (by simp <;> omega) _ | refine yxt ?_ (by assumption)) hb)); clear k0 k1 k2 kl m0 m1 ml r0 r1 rf0 rf1 rl HB HS HR HX; have HB := HB9; have HS := HS9; have HR := HR9; have HX := HX9; clear HB9 HS9 HR9 HX9; obtain ⟨k0, k1, k2, kl⟩ := HB.out.c3; obtain ⟨m0, m1, _, _, ml⟩ := HS.out.c2; obtain ⟨r0, r1, rf0, rf1, rl⟩ := HR.out.c2; clear hb))
        refine bodyPost_ret (v := .tuple #[.agg #[.slice none 0 0, .slice none 0 0], .int .i64 z]) (by simp [results, Tryz.results28, go_sem, r0, r1]) rfl (Ret.mk' (by rw [HV.out]) (by have hx9 := HX.out; exact (by repeat first | exact yx0 _ | assumption | refine yxa ?_ _ | refine yxd ?_ | refine yxn ?_ _ | refine yxs ?_ (by simp <;> omega) _ | refine yxt ?_ (by assumption))))
      case pos =>
        have HK2 := Lib.hid (HNX.out hz)
        rw [hz] at cK
        have CK := Lib.hid cK; clear cK HNX HHK hz
        go_wp2_with (first | (go_at_call 24; refine Calls.mono (CK.out _ (HF.out.ext (HX.out.trans (by repeat first | exact yx0 _ | assumption | refine yxa ?_ _ | refine yxd ?_ | refine yxn ?_ _ | refine yxs ?_ (by simp <;> omega) _ | refine yxt ?_ (by assumption)))) (HSW.out.ext (HX.out.trans (by repeat first | exact yx0 _ | assumption | refine yxa ?_ _ | refine yxd ?_ | refine yxn ?_ _ | refine yxs ?_ (by simp <;> omega) _ | refine yxt ?_ (by assumption))))) ?_; rintro e9 w1 ⟨rfl, hb⟩; have HB9 := Lib.hid (HB.out.ext (Ext.trans (by repeat first | exact yx0 _ | assumption | refine yxa ?_ _ | refine yxd ?_ | refine yxn ?_ _ | refine yxs ?_ (by simp <;> omega) _ | refine yxt ?_ (by assumption)) hb)); have HS9 := Lib.hid (HS.out.ext (Ext.trans (by repeat first | exact yx0 _ | assumption | refine yxa ?_ _ | refine yxd ?_ | refine yxn ?_ _ | refine yxs ?_ (by simp <;> omega) _ | refine yxt ?_ (by assumption)) hb)); have HR9 := Lib.hid (HR.out.ext (Ext.trans (by repeat first | exact yx0 _ | assumption | refine yxa ?_ _ | refine yxd ?_ | refine yxn ?_ _ | refine yxs ?_ (by simp <;> omega) _ | refine yxt ?_ (by assumption)) hb)); have HX9 := Lib.hid (HX.out.trans (Ext.trans (by repeat first | exact yx0 _ | assumption | refine yxa ?_ _ | refine yxd ?_ | refine yxn ?_ _ | refine yxs ?_ (by simp <;> omega) _ | refine yxt ?_ (by assumption)) hb)); clear k0 k1 k2 kl m0 m1 ml r0 r1 rf0 rf1 rl HB HS HR HX; have HB := HB9; have HS := HS9; have HR := HR9; have HX := HX9; clear HB9 HS9 HR9 HX9; obtain ⟨k0, k1, k2, kl⟩ := HB.out.c3; obtain ⟨m0, m1, _, _, ml⟩ := HS.out.c2; obtain ⟨r0, r1, rf0, rf1, rl⟩ := HR.out.c2; clear hb))
        go_roundw
        case rel => exact ⟨k + 1, by omega, by go_num, HK2, HB, HS, HR, HX⟩
        case measure => simp [intOf] <;> omega
/-- The error of a set, as both programs look for it. -/
theorem setE_far {n : Nat} {set : List Int} {k : Nat} (hk : k < set.length) (hb : ¬ (0 ≤ set.getD k 0 ∧ set.getD k 0 < n)) : setE n set = 6 := by
  unfold setE
  rw [if_pos]
  intro h
  have := firstE_zero h k hk
  rw [if_neg hb] at this
  cases this
theorem setE_order {n : Nat} {set : List Int} (h0 : ∀ k, k < set.length → 0 ≤ set.getD k 0 ∧ set.getD k 0 < n) {k : Nat} (h1 : ∀ j, 0 < j → j < k → set.getD (j - 1) 0 < set.getD j 0) (hp : 0 < k) (hk : k < set.length) (hb : set.getD k 0 ≤ set.getD (k - 1) 0) : setE n set = 9 := by
  unfold setE
  rw [if_neg (fun hne => hne (firstE_none fun i hi => if_pos (h0 i hi)))]
  have h9 := firstE_hit (g := fun i => if 0 < i ∧ set.getD i 0 ≤ set.getD (i - 1) 0 then (9 : Int) else 0) (k := k) (fun j hj => by rw [if_neg]; intro h9; have := h1 j h9.1 hj; omega) (by rw [if_pos ⟨hp, hb⟩]; decide) hk
  rw [if_pos ⟨hp, hb⟩] at h9
  exact h9
theorem setE_ok {n : Nat} {set : List Int} (h0 : ∀ k, k < set.length → 0 ≤ set.getD k 0 ∧ set.getD k 0 < n) (h1 : ∀ k, 0 < k → k < set.length → set.getD (k - 1) 0 < set.getD k 0) : setE n set = 0 := by
  unfold setE
  rw [if_neg (fun hne => hne (firstE_none fun i hi => if_pos (h0 i hi)))]
  exact firstE_none fun i hi => by rw [if_neg]; intro h9; have := h1 i h9.1 hi; omega
end Go.Proofs.YtfbdklminljecaaGreatDoor
