/-
  Walk: how many pages of a set stand (page.Stands).
-/
import Derived.Test.YtfkjhgcablakgaaGreatDoorPSet
import Derived.Test.YtfkjhgcablakgaaGreatDoorPLack
import Derived.Test.YtfkjhgcablakgaaGreatDoorStandAll
namespace Go.Proofs.YtfkjhgcablakgaaGreatDoor
open Go.RowKit
attribute [local go_sem ↓] Go.wp_at_zero Go.wp_at_succ

def psE (f : FT) (s : ST) (set : List Int) : Int := if standE f s.cs s.zs ≠ 0 then standE f s.cs s.zs else if setE s.ns.length set ≠ 0 then setE s.ns.length set else if shortE s.cs s.zs set ≠ 0 then 20 else 0
def psN (f : FT) (s : ST) (set : List Int) : Int := if standE f s.cs s.zs ≠ 0 then 0 else if setE s.ns.length set ≠ 0 then 0 else if shortE s.cs s.zs set ≠ 0 then shortE s.cs s.zs set - 1 else set.length
set_option maxRecDepth 100000 in
set_option maxHeartbeats 8000000 in
theorem pStandsN_any (f : FT) (A : Option Addr) (c : Nat) (s : ST) (X : Option Addr) (cx : Nat) (set : List Int) (w : World) (hf : FR w A c f) (hs : SR w s) (hx : RI w X set.length set) :
    Calls Tryz.prog 27 #[f.val A c, s.val, .slice X set.length cx] w (Ret (.tuple #[.int .i64 (psN f s set), .int .i64 (psE f s set)]) w) := by
  have cST := fun W h1 h2 => pStandOf_any f A c s W h1 h2
  have HF := Lib.hid hf; have HSR := Lib.hid hs; have HRX := Lib.hid hx
  by_cases h1 : standE f s.cs s.zs = 0
  case neg =>
    have hN : psN f s set = 0 := by unfold psN; rw [if_pos h1]
    have hE : psE f s set = standE f s.cs s.zs := by unfold psE; rw [if_pos h1]
    have hV : stV f s = .agg #[.slice none 0 0, .slice none 0 0] := by unfold stV; rw [if_neg h1]
    rw [hN, hE]
    rw [hV] at cST
    have e0 : (standE f s.cs s.zs != 0) = true := by simpa using h1
    clear hf hs hx hN hE hV h1
    generalize standE f s.cs s.zs = z at *
    obtain ⟨name, body, ss⟩ := f
    obtain ⟨B, d, cs, D, e, ns⟩ := s
    simp only [ST.val, FT.val] at *
    have CST := Lib.hid cST; clear cST
    go_enter Tryz.func27, Tryz.ntmps27
    go_wp2_with (first | (go_at_call 60; refine Calls.mono (CST.out _ (HF.out.ext (by repeat first | exact yx0 _ | assumption | refine yxa ?_ _ | refine yxd ?_ | refine yxn ?_ _ | refine yxs ?_ (by simp <;> omega) _ | refine yxt ?_ (by assumption))) (HSR.out.ext (by repeat first | exact yx0 _ | assumption | refine yxa ?_ _ | refine yxd ?_ | refine yxn ?_ _ | refine yxs ?_ (by simp <;> omega) _ | refine yxt ?_ (by assumption)))) ?_; rintro e9 w1 ⟨rfl, hb⟩; have HX := Lib.hid (Ext.trans (a := w) (by repeat first | exact yx0 _ | assumption | refine yxa ?_ _ | refine yxd ?_ | refine yxn ?_ _ | refine yxs ?_ (by simp <;> omega) _ | refine yxt ?_ (by assumption)) hb); clear hb))
    go_ret2
    exact Ret.mk' rfl (by have hx9 := HX.out; have hx8 := HX.out.size; exact (by repeat first | exact yx0 _ | assumption | refine yxa ?_ _ | refine yxd ?_ | refine yxn ?_ _ | refine yxs ?_ (by simp <;> omega) _ | refine yxt ?_ (by assumption)))
  case pos =>
  have hV : stV f s = s.val := by unfold stV; rw [if_pos h1]
  have hR : Right s := Right.of h1
  have cSE := fun W h1 h2 => pSetErr_any s X cx set W h1 h2
  rw [hV, h1] at cST
  by_cases h2 : setE s.ns.length set = 0
  case neg =>
    have hN : psN f s set = 0 := by unfold psN; rw [if_neg (by simpa using h1), if_pos h2]
    have hE : psE f s set = setE s.ns.length set := by unfold psE; rw [if_neg (by simpa using h1), if_pos h2]
    rw [hN, hE]
    have e0 : (setE s.ns.length set != 0) = true := by simpa using h2
    clear hf hs hx hN hE hV h1 hR h2
    generalize setE s.ns.length set = z at *
    obtain ⟨name, body, ss⟩ := f
    obtain ⟨B, d, cs, D, e, ns⟩ := s
    simp only [ST.val, FT.val] at *
    have CST := Lib.hid cST; have CSE := Lib.hid cSE; clear cST cSE
    go_enter Tryz.func27, Tryz.ntmps27
    go_upto_region 2 with (first | (go_at_call 60; refine Calls.mono (CST.out _ (HF.out.ext (by repeat first | exact yx0 _ | assumption | refine yxa ?_ _ | refine yxd ?_ | refine yxn ?_ _ | refine yxs ?_ (by simp <;> omega) _ | refine yxt ?_ (by assumption))) (HSR.out.ext (by repeat first | exact yx0 _ | assumption | refine yxa ?_ _ | refine yxd ?_ | refine yxn ?_ _ | refine yxs ?_ (by simp <;> omega) _ | refine yxt ?_ (by assumption)))) ?_; rintro e9 w1 ⟨rfl, hb⟩; have HX := Lib.hid (Ext.trans (a := w) (by repeat first | exact yx0 _ | assumption | refine yxa ?_ _ | refine yxd ?_ | refine yxn ?_ _ | refine yxs ?_ (by simp <;> omega) _ | refine yxt ?_ (by assumption)) hb); clear hb))
    obtain ⟨wq, hwq⟩ : ∃ wq, w1.alloc (.cells #[.slice B cs.length d, .slice D ns.length e] 98) = wq := ⟨_, rfl⟩
    have HK : Hid (Blk wq w1.heap.size 98 #[.slice B cs.length d, .slice D ns.length e]) := Lib.hid (by rw [← hwq]; exact Blk.new w1 _ _)
    have HX2 : Hid (Ext w wq) := Lib.hid (by rw [← hwq]; have hx9 := HX.out; have hx8 := HX.out.size; exact (by repeat first | exact yx0 _ | assumption | refine yxa ?_ _ | refine yxd ?_ | refine yxn ?_ _ | refine yxs ?_ (by simp <;> omega) _ | refine yxt ?_ (by assumption)))
    clear HX
    have HX := HX2
    clear HX2
    rw [hwq]
    clear hwq
    obtain ⟨n0, n1, _, _, nl⟩ := HK.out.c2
    go_wp2_with (first | (go_at_call 67; refine Calls.mono (CSE.out _ (HSR.out.ext (HX.out.trans (by repeat first | exact yx0 _ | assumption | refine yxa ?_ _ | refine yxd ?_ | refine yxn ?_ _ | refine yxs ?_ (by simp <;> omega) _ | refine yxt ?_ (by assumption)))) (HRX.out.ext (HX.out.trans (by repeat first | exact yx0 _ | assumption | refine yxa ?_ _ | refine yxd ?_ | refine yxn ?_ _ | refine yxs ?_ (by simp <;> omega) _ | refine yxt ?_ (by assumption))))) ?_; rintro e9 w2 ⟨rfl, hb⟩; have hq := yxx HX.out (by repeat first | exact yx0 _ | assumption | refine yxa ?_ _ | refine yxd ?_ | refine yxn ?_ _ | refine yxs ?_ (by simp <;> omega) _ | refine yxt ?_ (by assumption)) hb; have HK9 := Lib.hid (HK.out.ext hq); have HX9 := Lib.hid (HX.out.trans hq); clear hq; clear n0 n1 nl HK HX; have HK := HK9; have HX := HX9; clear HK9 HX9; obtain ⟨n0, n1, _, _, nl⟩ := HK.out.c2; clear hb))
    go_ret2
    exact Ret.mk' rfl (HX.out.trans (by repeat first | exact yx0 _ | assumption | refine yxa ?_ _ | refine yxd ?_ | refine yxn ?_ _ | refine yxs ?_ (by simp <;> omega) _ | refine yxt ?_ (by assumption)))
  case pos =>
  have hp := setE_zero h2
  have cLK := fun W h1 h2 => pLacks_any s X cx set W h1 h2 hR hp
  rw [h2] at cSE
  by_cases h3 : shortE s.cs s.zs set = 0
  case pos =>
    have hN : psN f s set = set.length := by unfold psN; rw [if_neg (by simpa using h1), if_neg (by simpa using h2), if_neg (by simpa using h3)]
    have hE : psE f s set = 0 := by unfold psE; rw [if_neg (by simpa using h1), if_neg (by simpa using h2), if_neg (by simpa using h3)]
    have hL : lacksV s set = .tuple #[.int .i64 0, .bool false] := by unfold lacksV; rw [if_pos h3]
    rw [hN, hE]
    rw [hL] at cLK
    clear hf hs hx hN hE hV h1 hR h2 h3 hp hL
    obtain ⟨name, body, ss⟩ := f
    obtain ⟨B, d, cs, D, e, ns⟩ := s
    simp only [ST.val, FT.val] at *
    have CST := Lib.hid cST; have CSE := Lib.hid cSE; have CLK := Lib.hid cLK; clear cST cSE cLK
    go_enter Tryz.func27, Tryz.ntmps27
    go_upto_region 2 with (first | (go_at_call 60; refine Calls.mono (CST.out _ (HF.out.ext (by repeat first | exact yx0 _ | assumption | refine yxa ?_ _ | refine yxd ?_ | refine yxn ?_ _ | refine yxs ?_ (by simp <;> omega) _ | refine yxt ?_ (by assumption))) (HSR.out.ext (by repeat first | exact yx0 _ | assumption | refine yxa ?_ _ | refine yxd ?_ | refine yxn ?_ _ | refine yxs ?_ (by simp <;> omega) _ | refine yxt ?_ (by assumption)))) ?_; rintro e9 w1 ⟨rfl, hb⟩; have HX := Lib.hid (Ext.trans (a := w) (by repeat first | exact yx0 _ | assumption | refine yxa ?_ _ | refine yxd ?_ | refine yxn ?_ _ | refine yxs ?_ (by simp <;> omega) _ | refine yxt ?_ (by assumption)) hb); clear hb))
    obtain ⟨wq, hwq⟩ : ∃ wq, w1.alloc (.cells #[.slice B cs.length d, .slice D ns.length e] 98) = wq := ⟨_, rfl⟩
    have HK : Hid (Blk wq w1.heap.size 98 #[.slice B cs.length d, .slice D ns.length e]) := Lib.hid (by rw [← hwq]; exact Blk.new w1 _ _)
    have HX2 : Hid (Ext w wq) := Lib.hid (by rw [← hwq]; have hx9 := HX.out; have hx8 := HX.out.size; exact (by repeat first | exact yx0 _ | assumption | refine yxa ?_ _ | refine yxd ?_ | refine yxn ?_ _ | refine yxs ?_ (by simp <;> omega) _ | refine yxt ?_ (by assumption)))
    clear HX
    have HX := HX2
    clear HX2
    rw [hwq]
    clear hwq
    obtain ⟨n0, n1, _, _, nl⟩ := HK.out.c2
    go_wp2_with (first | (go_at_call 67; refine Calls.mono (CSE.out _ (HSR.out.ext (HX.out.trans (by repeat first | exact yx0 _ | assumption | refine yxa ?_ _ | refine yxd ?_ | refine yxn ?_ _ | refine yxs ?_ (by simp <;> omega) _ | refine yxt ?_ (by assumption)))) (HRX.out.ext (HX.out.trans (by repeat first | exact yx0 _ | assumption | refine yxa ?_ _ | refine yxd ?_ | refine yxn ?_ _ | refine yxs ?_ (by simp <;> omega) _ | refine yxt ?_ (by assumption))))) ?_; rintro e9 w2 ⟨rfl, hb⟩; have hq := yxx HX.out (by repeat first | exact yx0 _ | assumption | refine yxa ?_ _ | refine yxd ?_ | refine yxn ?_ _ | refine yxs ?_ (by simp <;> omega) _ | refine yxt ?_ (by assumption)) hb; have HK9 := Lib.hid (HK.out.ext hq); have HX9 := Lib.hid (HX.out.trans hq); clear hq; clear n0 n1 nl HK HX; have HK := HK9; have HX := HX9; clear HK9 HX9; obtain ⟨n0, n1, _, _, nl⟩ := HK.out.c2; clear hb) | (go_at_call 64; refine Calls.mono (CLK.out _ (HSR.out.ext (HX.out.trans (by repeat first | exact yx0 _ | assumption | refine yxa ?_ _ | refine yxd ?_ | refine yxn ?_ _ | refine yxs ?_ (by simp <;> omega) _ | refine yxt ?_ (by assumption)))) (HRX.out.ext (HX.out.trans (by repeat first | exact yx0 _ | assumption | refine yxa ?_ _ | refine yxd ?_ | refine yxn ?_ _ | refine yxs ?_ (by simp <;> omega) _ | refine yxt ?_ (by assumption))))) ?_; rintro e9 w3 ⟨rfl, hb⟩; have hq := yxx HX.out (by repeat first | exact yx0 _ | assumption | refine yxa ?_ _ | refine yxd ?_ | refine yxn ?_ _ | refine yxs ?_ (by simp <;> omega) _ | refine yxt ?_ (by assumption)) hb; have HK9 := Lib.hid (HK.out.ext hq); have HX9 := Lib.hid (HX.out.trans hq); clear hq; clear n0 n1 nl HK HX; have HK := HK9; have HX := HX9; clear HK9 HX9; obtain ⟨n0, n1, _, _, nl⟩ := HK.out.c2; clear hb))
    go_ret2
    exact Ret.mk' rfl (HX.out.trans (by repeat first | exact yx0 _ | assumption | refine yxa ?_ _ | refine yxd ?_ | refine yxn ?_ _ | refine yxs ?_ (by simp <;> omega) _ | refine yxt ?_ (by assumption)))
  case neg =>
    have hN : psN f s set = shortE s.cs s.zs set - 1 := by unfold psN; rw [if_neg (by simpa using h1), if_neg (by simpa using h2), if_pos h3]
    have hE : psE f s set = 20 := by unfold psE; rw [if_neg (by simpa using h1), if_neg (by simpa using h2), if_pos h3]
    have hL : lacksV s set = .tuple #[.int .i64 (shortE s.cs s.zs set - 1), .bool true] := by unfold lacksV; rw [if_neg h3]
    rw [hN, hE]
    rw [hL] at cLK
    clear hf hs hx hN hE hV h1 hR h2 h3 hp hL
    generalize shortE s.cs s.zs set - 1 = m at *
    obtain ⟨name, body, ss⟩ := f
    obtain ⟨B, d, cs, D, e, ns⟩ := s
    simp only [ST.val, FT.val] at *
    have CST := Lib.hid cST; have CSE := Lib.hid cSE; have CLK := Lib.hid cLK; clear cST cSE cLK
    go_enter Tryz.func27, Tryz.ntmps27
    go_upto_region 2 with (first | (go_at_call 60; refine Calls.mono (CST.out _ (HF.out.ext (by repeat first | exact yx0 _ | assumption | refine yxa ?_ _ | refine yxd ?_ | refine yxn ?_ _ | refine yxs ?_ (by simp <;> omega) _ | refine yxt ?_ (by assumption))) (HSR.out.ext (by repeat first | exact yx0 _ | assumption | refine yxa ?_ _ | refine yxd ?_ | refine yxn ?_ _ | refine yxs ?_ (by simp <;> omega) _ | refine yxt ?_ (by assumption)))) ?_; rintro e9 w1 ⟨rfl, hb⟩; have HX := Lib.hid (Ext.trans (a := w) (by repeat first | exact yx0 _ | assumption | refine yxa ?_ _ | refine yxd ?_ | refine yxn ?_ _ | refine yxs ?_ (by simp <;> omega) _ | refine yxt ?_ (by assumption)) hb); clear hb))
    obtain ⟨wq, hwq⟩ : ∃ wq, w1.alloc (.cells #[.slice B cs.length d, .slice D ns.length e] 98) = wq := ⟨_, rfl⟩
    have HK : Hid (Blk wq w1.heap.size 98 #[.slice B cs.length d, .slice D ns.length e]) := Lib.hid (by rw [← hwq]; exact Blk.new w1 _ _)
    have HX2 : Hid (Ext w wq) := Lib.hid (by rw [← hwq]; have hx9 := HX.out; have hx8 := HX.out.size; exact (by repeat first | exact yx0 _ | assumption | refine yxa ?_ _ | refine yxd ?_ | refine yxn ?_ _ | refine yxs ?_ (by simp <;> omega) _ | refine yxt ?_ (by assumption)))
    clear HX
    have HX := HX2
    clear HX2
    rw [hwq]
    clear hwq
    obtain ⟨n0, n1, _, _, nl⟩ := HK.out.c2
    go_wp2_with (first | (go_at_call 67; refine Calls.mono (CSE.out _ (HSR.out.ext (HX.out.trans (by repeat first | exact yx0 _ | assumption | refine yxa ?_ _ | refine yxd ?_ | refine yxn ?_ _ | refine yxs ?_ (by simp <;> omega) _ | refine yxt ?_ (by assumption)))) (HRX.out.ext (HX.out.trans (by repeat first | exact yx0 _ | assumption | refine yxa ?_ _ | refine yxd ?_ | refine yxn ?_ _ | refine yxs ?_ (by simp <;> omega) _ | refine yxt ?_ (by assumption))))) ?_; rintro e9 w2 ⟨rfl, hb⟩; have hq := yxx HX.out (by repeat first | exact yx0 _ | assumption | refine yxa ?_ _ | refine yxd ?_ | refine yxn ?_ _ | refine yxs ?_ (by simp <;> omega) _ | refine yxt ?_ (by assumption)) hb; have HK9 := Lib.hid (HK.out.ext hq); have HX9 := Lib.hid (HX.out.trans hq); clear hq; clear n0 n1 nl HK HX; have HK := HK9; have HX := HX9; clear HK9 HX9; obtain ⟨n0, n1, _, _, nl⟩ := HK.out.c2; clear hb) | (go_at_call 64; refine Calls.mono (CLK.out _ (HSR.out.ext (HX.out.trans (by repeat first | exact yx0 _ | assumption | refine yxa ?_ _ | refine yxd ?_ | refine yxn ?_ _ | refine yxs ?_ (by simp <;> omega) _ | refine yxt ?_ (by assumption)))) (HRX.out.ext (HX.out.trans (by repeat first | exact yx0 _ | assumption | refine yxa ?_ _ | refine yxd ?_ | refine yxn ?_ _ | refine yxs ?_ (by simp <;> omega) _ | refine yxt ?_ (by assumption))))) ?_; rintro e9 w3 ⟨rfl, hb⟩; have hq := yxx HX.out (by repeat first | exact yx0 _ | assumption | refine yxa ?_ _ | refine yxd ?_ | refine yxn ?_ _ | refine yxs ?_ (by simp <;> omega) _ | refine yxt ?_ (by assumption)) hb; have HK9 := Lib.hid (HK.out.ext hq); have HX9 := Lib.hid (HX.out.trans hq); clear hq; clear n0 n1 nl HK HX; have HK := HK9; have HX := HX9; clear HK9 HX9; obtain ⟨n0, n1, _, _, nl⟩ := HK.out.c2; clear hb))
    go_ret2
    exact Ret.mk' rfl (HX.out.trans (by repeat first | exact yx0 _ | assumption | refine yxa ?_ _ | refine yxd ?_ | refine yxn ?_ _ | refine yxs ?_ (by simp <;> omega) _ | refine yxt ?_ (by assumption)))
end Go.Proofs.YtfkjhgcablakgaaGreatDoor
