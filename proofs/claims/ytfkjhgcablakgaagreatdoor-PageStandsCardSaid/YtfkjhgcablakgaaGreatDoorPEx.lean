/-
  Walk: which sets exclude themselves (page.CheckExcluding).
-/
import Derived.Test.YtfkjhgcablakgaaGreatDoorPSt
import Derived.Test.YtfkjhgcablakgaaGreatDoorRExcl
import Derived.Test.YtfkjhgcablakgaaGreatDoorConcat
namespace Go.Proofs.YtfkjhgcablakgaaGreatDoor
open Go.RowKit
attribute [local go_sem ↓] Go.wp_at_zero Go.wp_at_succ

theorem RL.two2 {W : World} {g : Nat} {t : TypeId} {v1 v2 : Value} {s1 s2 : SI} (hb : Blk W g t #[v1, v2]) (h1 : s1.val = v1) (h2 : s2.val = v2) (hr1 : RI W s1.A s1.zs.length s1.zs) (hr2 : RI W s2.A s2.zs.length s2.zs) : RL W (some ⟨g, 0, none⟩) 2 [s1, s2] := by
  refine ⟨rfl, by omega, fun _ => ⟨g, 0, rfl, hb.lt, fun k hk => ?_⟩, fun k hk => ?_⟩
  · match k, hk with
    | 0, _ => rw [Nat.zero_add, hb.cell 0 _ rfl, ← h1]; rfl
    | 1, _ => rw [Nat.zero_add, hb.cell 1 _ rfl, ← h2]; rfl
  · match k, hk with
    | 0, _ => exact hr1
    | 1, _ => exact hr2
def pxE (f : FT) (s : ST) (set : List Int) : Int := if standE f s.cs s.zs ≠ 0 then standE f s.cs s.zs else if setE s.ns.length set ≠ 0 then setE s.ns.length set else if shortE s.cs s.zs set = 0 then 22 else if exclE s.cs s.zs set ≠ 0 then 13 else 0
def pxN (f : FT) (s : ST) (set : List Int) : Int := if standE f s.cs s.zs ≠ 0 then 0 else if setE s.ns.length set ≠ 0 then 0 else if shortE s.cs s.zs set = 0 then 0 else if exclE s.cs s.zs set ≠ 0 then 0 else shortE s.cs s.zs set - 1
set_option maxRecDepth 100000 in
set_option maxHeartbeats 16000000 in
theorem pExcl_any (f : FT) (A : Option Addr) (c : Nat) (s : ST) (X : Option Addr) (cx : Nat) (set : List Int) (w : World) (hf : FR w A c f) (hs : SR w s) (hx : RI w X set.length set) (hc : set.length ≤ cx) :
    Calls Tryz.prog 29 #[f.val A c, s.val, .slice X set.length cx] w (Ret (.tuple #[.int .i64 (pxN f s set), .int .i64 (pxE f s set)]) w) := by
  have cST := fun W h1 h2 => pStandOf_any f A c s W h1 h2
  have HF := Lib.hid hf; have HSR := Lib.hid hs; have HRX := Lib.hid hx
  by_cases h1 : standE f s.cs s.zs = 0
  case neg =>
    have hN : pxN f s set = 0 := by unfold pxN; rw [if_pos h1]
    have hE : pxE f s set = standE f s.cs s.zs := by unfold pxE; rw [if_pos h1]
    have hV : stV f s = .agg #[.slice none 0 0, .slice none 0 0] := by unfold stV; rw [if_neg h1]
    rw [hN, hE]
    rw [hV] at cST
    have e0 : (standE f s.cs s.zs != 0) = true := by simpa using h1
    clear hf hs hx hN hE hV h1
    generalize standE f s.cs s.zs = z at *
    obtain ⟨name, body, ss⟩ := f
    obtain ⟨B, d, cs, D, e, ns⟩ := s
    simp only [ST.val, FT.val] at *
    have CST := Lib.hid cST; clear cST
    go_enter Tryz.func29, Tryz.ntmps29
    go_wp2_with (first | (go_at_call 60; refine Calls.mono (CST.out _ (HF.out.ext (by repeat first | exact yx0 _ | assumption | refine yxa ?_ _ | refine yxd ?_ | refine yxn ?_ _ | refine yxs ?_ (by simp <;> omega) _ | refine yxt ?_ (by assumption))) (HSR.out.ext (by repeat first | exact yx0 _ | assumption | refine yxa ?_ _ | refine yxd ?_ | refine yxn ?_ _ | refine yxs ?_ (by simp <;> omega) _ | refine yxt ?_ (by assumption)))) ?_; rintro e9 w1 ⟨rfl, hb⟩; have HX := Lib.hid (Ext.trans (a := w) (by repeat first | exact yx0 _ | assumption | refine yxa ?_ _ | refine yxd ?_ | refine yxn ?_ _ | refine yxs ?_ (by simp <;> omega) _ | refine yxt ?_ (by assumption)) hb); clear hb))
    go_ret2
    exact Ret.mk' rfl (by have hx9 := HX.out; have hx8 := HX.out.size; exact (by repeat first | exact yx0 _ | assumption | refine yxa ?_ _ | refine yxd ?_ | refine yxn ?_ _ | refine yxs ?_ (by simp <;> omega) _ | refine yxt ?_ (by assumption)))
  case pos =>
  have hV : stV f s = s.val := by unfold stV; rw [if_pos h1]
  have hR : Right s := Right.of h1
  have cSE := fun W h1 h2 => pSetErr_any s X cx set W h1 h2
  rw [hV, h1] at cST
  by_cases h2 : setE s.ns.length set = 0
  case neg =>
    have hN : pxN f s set = 0 := by unfold pxN; rw [if_neg (by simpa using h1), if_pos h2]
    have hE : pxE f s set = setE s.ns.length set := by unfold pxE; rw [if_neg (by simpa using h1), if_pos h2]
    rw [hN, hE]
    have e0 : (setE s.ns.length set != 0) = true := by simpa using h2
    clear hf hs hx hN hE hV h1 hR h2
    generalize setE s.ns.length set = z at *
    obtain ⟨name, body, ss⟩ := f
    obtain ⟨B, d, cs, D, e, ns⟩ := s
    simp only [ST.val, FT.val] at *
    have CST := Lib.hid cST; have CSE := Lib.hid cSE; clear cST cSE
    go_enter Tryz.func29, Tryz.ntmps29
    go_upto_region 2 with (first | (go_at_call 60; refine Calls.mono (CST.out _ (HF.out.ext (by repeat first | exact yx0 _ | assumption | refine yxa ?_ _ | refine yxd ?_ | refine yxn ?_ _ | refine yxs ?_ (by simp <;> omega) _ | refine yxt ?_ (by assumption))) (HSR.out.ext (by repeat first | exact yx0 _ | assumption | refine yxa ?_ _ | refine yxd ?_ | refine yxn ?_ _ | refine yxs ?_ (by simp <;> omega) _ | refine yxt ?_ (by assumption)))) ?_; rintro e9 w1 ⟨rfl, hb⟩; have HX := Lib.hid (Ext.trans (a := w) (by repeat first | exact yx0 _ | assumption | refine yxa ?_ _ | refine yxd ?_ | refine yxn ?_ _ | refine yxs ?_ (by simp <;> omega) _ | refine yxt ?_ (by assumption)) hb); clear hb))
    obtain ⟨wq, hwq⟩ : ∃ wq, w1.alloc (.cells #[.slice B cs.length d, .slice D ns.length e] 98) = wq := ⟨_, rfl⟩
    have HK : Hid (Blk wq w1.heap.size 98 #[.slice B cs.length d, .slice D ns.length e]) := Lib.hid (by rw [← hwq]; exact Blk.new w1 _ _)
    have HX2 : Hid (Ext w wq) := Lib.hid (by rw [← hwq]; have hx9 := HX.out; have hx8 := HX.out.size; exact (by repeat first | exact yx0 _ | assumption | refine yxa ?_ _ | refine yxd ?_ | refine yxn ?_ _ | refine yxs ?_ (by simp <;> omega) _ | refine yxt ?_ (by assumption)))
    clear HX
    have HX := HX2
    clear HX2
    rw [hwq]
    clear hwq
    obtain ⟨n0, n1, _, _, nl⟩ := HK.out.c2
    go_wp2_with (first | (go_at_call 67; refine Calls.mono (CSE.out _ (HSR.out.ext (HX.out.trans (by repeat first | exact yx0 _ | assumption | refine yxa ?_ _ | refine yxd ?_ | refine yxn ?_ _ | refine yxs ?_ (by simp <;> omega) _ | refine yxt ?_ (by assumption)))) (HRX.out.ext (HX.out.trans (by repeat first | exact yx0 _ | assumption | refine yxa ?_ _ | refine yxd ?_ | refine yxn ?_ _ | refine yxs ?_ (by simp <;> omega) _ | refine yxt ?_ (by assumption))))) ?_; rintro e9 w2 ⟨rfl, hb⟩; have hq := yxx HX.out (by repeat first | exact yx0 _ | assumption | refine yxa ?_ _ | refine yxd ?_ | refine yxn ?_ _ | refine yxs ?_ (by simp <;> omega) _ | refine yxt ?_ (by assumption)) hb; have HK9 := Lib.hid (HK.out.ext hq); have HX9 := Lib.hid (HX.out.trans hq); clear hq; clear n0 n1 nl HK HX; have HK := HK9; have HX := HX9; clear HK9 HX9; obtain ⟨n0, n1, _, _, nl⟩ := HK.out.c2; clear hb))
    go_ret2
    exact Ret.mk' rfl (HX.out.trans (by repeat first | exact yx0 _ | assumption | refine yxa ?_ _ | refine yxd ?_ | refine yxn ?_ _ | refine yxs ?_ (by simp <;> omega) _ | refine yxt ?_ (by assumption)))
  case pos =>
  have hp := setE_zero h2
  have cLK := fun W h1 h2 => pLacks_any s X cx set W h1 h2 hR hp
  rw [h2] at cSE
  by_cases h3 : shortE s.cs s.zs set = 0
  case pos =>
    have hN : pxN f s set = 0 := by unfold pxN; rw [if_neg (by simpa using h1), if_neg (by simpa using h2), if_pos h3]
    have hE : pxE f s set = 22 := by unfold pxE; rw [if_neg (by simpa using h1), if_neg (by simpa using h2), if_pos h3]
    have hL : lacksV s set = .tuple #[.int .i64 0, .bool false] := by unfold lacksV; rw [if_pos h3]
    rw [hN, hE]
    rw [hL] at cLK
    clear hf hs hx hN hE hV h1 hR h2 h3 hp hL
    obtain ⟨name, body, ss⟩ := f
    obtain ⟨B, d, cs, D, e, ns⟩ := s
    simp only [ST.val, FT.val] at *
    have CST := Lib.hid cST; have CSE := Lib.hid cSE; have CLK := Lib.hid cLK; clear cST cSE cLK
    go_enter Tryz.func29, Tryz.ntmps29
    go_upto_region 2 with (first | (go_at_call 60; refine Calls.mono (CST.out _ (HF.out.ext (by repeat first | exact yx0 _ | assumption | refine yxa ?_ _ | refine yxd ?_ | refine yxn ?_ _ | refine yxs ?_ (by simp <;> omega) _ | refine yxt ?_ (by assumption))) (HSR.out.ext (by repeat first | exact yx0 _ | assumption | refine yxa ?_ _ | refine yxd ?_ | refine yxn ?_ _ | refine yxs ?_ (by simp <;> omega) _ | refine yxt ?_ (by assumption)))) ?_; rintro e9 w1 ⟨rfl, hb⟩; have HX := Lib.hid (Ext.trans (a := w) (by repeat first | exact yx0 _ | assumption | refine yxa ?_ _ | refine yxd ?_ | refine yxn ?_ _ | refine yxs ?_ (by simp <;> omega) _ | refine yxt ?_ (by assumption)) hb); clear hb))
    obtain ⟨wq, hwq⟩ : ∃ wq, w1.alloc (.cells #[.slice B cs.length d, .slice D ns.length e] 98) = wq := ⟨_, rfl⟩
    have HK : Hid (Blk wq w1.heap.size 98 #[.slice B cs.length d, .slice D ns.length e]) := Lib.hid (by rw [← hwq]; exact Blk.new w1 _ _)
    have HX2 : Hid (Ext w wq) := Lib.hid (by rw [← hwq]; have hx9 := HX.out; have hx8 := HX.out.size; exact (by repeat first | exact yx0 _ | assumption | refine yxa ?_ _ | refine yxd ?_ | refine yxn ?_ _ | refine yxs ?_ (by simp <;> omega) _ | refine yxt ?_ (by assumption)))
    clear HX
    have HX := HX2
    clear HX2
    rw [hwq]
    clear hwq
    obtain ⟨n0, n1, _, _, nl⟩ := HK.out.c2
    go_wp2_with (first | (go_at_call 67; refine Calls.mono (CSE.out _ (HSR.out.ext (HX.out.trans (by repeat first | exact yx0 _ | assumption | refine yxa ?_ _ | refine yxd ?_ | refine yxn ?_ _ | refine yxs ?_ (by simp <;> omega) _ | refine yxt ?_ (by assumption)))) (HRX.out.ext (HX.out.trans (by repeat first | exact yx0 _ | assumption | refine yxa ?_ _ | refine yxd ?_ | refine yxn ?_ _ | refine yxs ?_ (by simp <;> omega) _ | refine yxt ?_ (by assumption))))) ?_; rintro e9 w2 ⟨rfl, hb⟩; have hq := yxx HX.out (by repeat first | exact yx0 _ | assumption | refine yxa ?_ _ | refine yxd ?_ | refine yxn ?_ _ | refine yxs ?_ (by simp <;> omega) _ | refine yxt ?_ (by assumption)) hb; have HK9 := Lib.hid (HK.out.ext hq); have HX9 := Lib.hid (HX.out.trans hq); clear hq; clear n0 n1 nl HK HX; have HK := HK9; have HX := HX9; clear HK9 HX9; obtain ⟨n0, n1, _, _, nl⟩ := HK.out.c2; clear hb) | (go_at_call 64; refine Calls.mono (CLK.out _ (HSR.out.ext (HX.out.trans (by repeat first | exact yx0 _ | assumption | refine yxa ?_ _ | refine yxd ?_ | refine yxn ?_ _ | refine yxs ?_ (by simp <;> omega) _ | refine yxt ?_ (by assumption)))) (HRX.out.ext (HX.out.trans (by repeat first | exact yx0 _ | assumption | refine yxa ?_ _ | refine yxd ?_ | refine yxn ?_ _ | refine yxs ?_ (by simp <;> omega) _ | refine yxt ?_ (by assumption))))) ?_; rintro e9 w3 ⟨rfl, hb⟩; have hq := yxx HX.out (by repeat first | exact yx0 _ | assumption | refine yxa ?_ _ | refine yxd ?_ | refine yxn ?_ _ | refine yxs ?_ (by simp <;> omega) _ | refine yxt ?_ (by assumption)) hb; have HK9 := Lib.hid (HK.out.ext hq); have HX9 := Lib.hid (HX.out.trans hq); clear hq; clear n0 n1 nl HK HX; have HK := HK9; have HX := HX9; clear HK9 HX9; obtain ⟨n0, n1, _, _, nl⟩ := HK.out.c2; clear hb))
    go_ret2
    exact Ret.mk' rfl (HX.out.trans (by repeat first | exact yx0 _ | assumption | refine yxa ?_ _ | refine yxd ?_ | refine yxn ?_ _ | refine yxs ?_ (by simp <;> omega) _ | refine yxt ?_ (by assumption)))
  case neg =>
    have hle := rise_len hp (by omega)
    have hfew := hR.few
    have hL : lacksV s set = .tuple #[.int .i64 (shortE s.cs s.zs set - 1), .bool true] := by unfold lacksV; rw [if_neg h3]
    have HH1 : Hid (∀ k, (∀ j, j < k → shortE s.cs s.zs (set.take j ++ set.drop (j + 1)) = 0) → k < set.length → shortE s.cs s.zs (set.take k ++ set.drop (k + 1)) ≠ 0 → pxN f s set = 0 ∧ pxE f s set = 13) := Lib.hid fun k h0 hk hb => by
      have h9 := exclE_hit h0 hk hb
      refine ⟨?_, ?_⟩
      · unfold pxN; rw [if_neg (by simpa using h1), if_neg (by simpa using h2), if_neg h3, h9]; rfl
      · unfold pxE; rw [if_neg (by simpa using h1), if_neg (by simpa using h2), if_neg h3, h9]; rfl
    have HH2 : Hid ((∀ j, j < set.length → shortE s.cs s.zs (set.take j ++ set.drop (j + 1)) = 0) → pxN f s set = shortE s.cs s.zs set - 1 ∧ pxE f s set = 0) := Lib.hid fun h0 => by
      have h9 := exclE_none h0
      refine ⟨?_, ?_⟩
      · unfold pxN; rw [if_neg (by simpa using h1), if_neg (by simpa using h2), if_neg h3, h9]; rfl
      · unfold pxE; rw [if_neg (by simpa using h1), if_neg (by simpa using h2), if_neg h3, h9]; rfl
    rw [hL] at cLK
    have CSW0 : Hid (∀ X cx i W, SR W s → RI W X (set.take i ++ set.drop (i + 1)).length (set.take i ++ set.drop (i + 1)) → Calls Tryz.prog 62 #[s.val, .slice X (set.take i ++ set.drop (i + 1)).length cx] W (Ret (.bool (standsB s (set.take i ++ set.drop (i + 1)))) W)) := Lib.hid fun X cx i W h1 h2 => pStands_any s X cx _ W h1 h2 hR (hp.sub (erase_sub set i))
    have HSB : Hid (∀ l, standsB s l = decide (shortE s.cs s.zs l = 0)) := Lib.hid fun _ => rfl
    clear hf hs hx hV h1 hR h2 h3 hp hL
    generalize pxN f s set = N at *
    generalize pxE f s set = E at *
    generalize shortE s.cs s.zs set - 1 = m at *
    obtain ⟨sh, hsh⟩ : ∃ sh : List Int → Int, sh = shortE s.cs s.zs := ⟨_, rfl⟩
    rw [← hsh] at HH1 HH2 HSB
    generalize standsB s = sb at *
    clear hsh
    obtain ⟨name, body, ss⟩ := f
    obtain ⟨B, d, cs, D, e, ns⟩ := s
    simp only [ST.val, FT.val] at *
    have CST := Lib.hid cST; have CSE := Lib.hid cSE; have CLK := Lib.hid cLK; clear cST cSE cLK
    go_enter Tryz.func29, Tryz.ntmps29
    go_upto_region 2 with (first | (go_at_call 60; refine Calls.mono (CST.out _ (HF.out.ext (by repeat first | exact yx0 _ | assumption | refine yxa ?_ _ | refine yxd ?_ | refine yxn ?_ _ | refine yxs ?_ (by simp <;> omega) _ | refine yxt ?_ (by assumption))) (HSR.out.ext (by repeat first | exact yx0 _ | assumption | refine yxa ?_ _ | refine yxd ?_ | refine yxn ?_ _ | refine yxs ?_ (by simp <;> omega) _ | refine yxt ?_ (by assumption)))) ?_; rintro e9 w1 ⟨rfl, hb⟩; have HX := Lib.hid (Ext.trans (a := w) (by repeat first | exact yx0 _ | assumption | refine yxa ?_ _ | refine yxd ?_ | refine yxn ?_ _ | refine yxs ?_ (by simp <;> omega) _ | refine yxt ?_ (by assumption)) hb); clear hb))
    obtain ⟨wq, hwq⟩ : ∃ wq, w1.alloc (.cells #[.slice B cs.length d, .slice D ns.length e] 98) = wq := ⟨_, rfl⟩
    have HK : Hid (Blk wq w1.heap.size 98 #[.slice B cs.length d, .slice D ns.length e]) := Lib.hid (by rw [← hwq]; exact Blk.new w1 _ _)
    have HX2 : Hid (Ext w wq) := Lib.hid (by rw [← hwq]; have hx9 := HX.out; have hx8 := HX.out.size; exact (by repeat first | exact yx0 _ | assumption | refine yxa ?_ _ | refine yxd ?_ | refine yxn ?_ _ | refine yxs ?_ (by simp <;> omega) _ | refine yxt ?_ (by assumption)))
    clear HX
    have HX := HX2
    clear HX2
    rw [hwq]
    clear hwq
    obtain ⟨n0, n1, _, _, nl⟩ := HK.out.c2
    go_wp2_with (first | (go_at_call 67; refine Calls.mono (CSE.out _ (HSR.out.ext (HX.out.trans (by repeat first | exact yx0 _ | assumption | refine yxa ?_ _ | refine yxd ?_ | refine yxn ?_ _ | refine yxs ?_ (by simp <;> omega) _ | refine yxt ?_ (by assumption)))) (HRX.out.ext (HX.out.trans (by repeat first | exact yx0 _ | assumption | refine yxa ?_ _ | refine yxd ?_ | refine yxn ?_ _ | refine yxs ?_ (by simp <;> omega) _ | refine yxt ?_ (by assumption))))) ?_; rintro e9 w2 ⟨rfl, hb⟩; have hq := yxx HX.out (by repeat first | exact yx0 _ | assumption | refine yxa ?_ _ | refine yxd ?_ | refine yxn ?_ _ | refine yxs ?_ (by simp <;> omega) _ | refine yxt ?_ (by assumption)) hb; have HK9 := Lib.hid (HK.out.ext hq); have HX9 := Lib.hid (HX.out.trans hq); clear hq; clear n0 n1 nl HK HX; have HK := HK9; have HX := HX9; clear HK9 HX9; obtain ⟨n0, n1, _, _, nl⟩ := HK.out.c2; clear hb) | (go_at_call 64; refine Calls.mono (CLK.out _ (HSR.out.ext (HX.out.trans (by repeat first | exact yx0 _ | assumption | refine yxa ?_ _ | refine yxd ?_ | refine yxn ?_ _ | refine yxs ?_ (by simp <;> omega) _ | refine yxt ?_ (by assumption)))) (HRX.out.ext (HX.out.trans (by repeat first | exact yx0 _ | assumption | refine yxa ?_ _ | refine yxd ?_ | refine yxn ?_ _ | refine yxs ?_ (by simp <;> omega) _ | refine yxt ?_ (by assumption))))) ?_; rintro e9 w3 ⟨rfl, hb⟩; have hq := yxx HX.out (by repeat first | exact yx0 _ | assumption | refine yxa ?_ _ | refine yxd ?_ | refine yxn ?_ _ | refine yxs ?_ (by simp <;> omega) _ | refine yxt ?_ (by assumption)) hb; have HK9 := Lib.hid (HK.out.ext hq); have HX9 := Lib.hid (HX.out.trans hq); clear hq; clear n0 n1 nl HK HX; have HK := HK9; have HX := HX9; clear HK9 HX9; obtain ⟨n0, n1, _, _, nl⟩ := HK.out.c2; clear hb))
    have HK1 := HK; have HX1 := HX
    clear n0 n1 nl HK HX
    go_loopw [39] (fun j wr => ∃ k : Nat, k ≤ set.length ∧ j = .int .i64 (k : Int) ∧ Hid (∀ j, j < k → sh (set.take j ++ set.drop (j + 1)) = 0) ∧ Hid (Blk wr w1.heap.size 98 #[.slice B cs.length d, .slice D ns.length e]) ∧ Hid (Ext w wr)) (fun j _ => set.length - (intOf j).toNat)
    case atStart => exact ⟨0, Nat.zero_le _, rfl, Lib.hid (fun j hj => absurd hj (by omega)), HK1, HX1⟩
    case round =>
      obtain ⟨k, hk, rfl, H0, HK, HX⟩ := hrel
      clear HK1 HX1
      obtain ⟨n0, n1, _, _, nl⟩ := HK.out.c2
      by_cases hlt : k < set.length
      case neg =>
        obtain rfl : k = set.length := by omega
        have i3 : ¬ (set.length : Int) < (set.length : Int) := by omega
        obtain ⟨hN, hE⟩ := HH2.out H0.out
        subst hN hE
        go_wp2
        go_ret2
        exact Ret.mk' rfl (HX.out.trans (by repeat first | exact yx0 _ | assumption | refine yxa ?_ _ | refine yxd ?_ | refine yxn ?_ _ | refine yxs ?_ (by simp <;> omega) _ | refine yxt ?_ (by assumption)))
      case pos =>
        have i3 : (k : Int) < (set.length : Int) := by omega
        obtain ⟨b, off, hX, hbw, _⟩ := HRX.out.2.2 (by omega)
        subst hX
        obtain ⟨j, hj⟩ : ∃ j, j = k + 1 := ⟨_, rfl⟩
        have htk := Cut.RI.take HRX.out hbw k (by omega)
        have hdr : RI w (if cx = j then some ⟨b, off, none⟩ else some ⟨b, off + j, none⟩) (set.length - j) (set.drop j) := by
          by_cases h : cx = j
          · exact ⟨List.length_drop, by omega, fun h1 => absurd h1 (by omega)⟩
          · rw [if_neg h]; exact Cut.RI.drop HRX.out hbw j (by omega)
        have hl1 : (set.take k).length = k := by rw [List.length_take]; omega
        have hl2 : (set.drop j).length = set.length - j := List.length_drop
        have hw1 : IntKind.i64.wrap ((k : Int) + 1) = (j : Int) := by rw [IntWalk.i64_in _ (by omega)]; omega
        have b1 : (0 : Int) ≤ (k : Int) := by omega
        have b2 : (k : Int) ≤ (cx : Int) := by omega
        have b3 : (0 : Int) ≤ (j : Int) := by omega
        have b4 : (j : Int) ≤ (set.length : Int) := by omega
        have b5 : (set.length : Int) ≤ (cx : Int) := by omega
        have HHK := Lib.hid (fun hb => HH1.out k H0.out hlt hb)
        have HNX : Hid (sh (set.take k ++ set.drop (k + 1)) = 0 → ∀ j, j < k + 1 → sh (set.take j ++ set.drop (j + 1)) = 0) := Lib.hid fun h j hj => by
          rcases Nat.lt_or_ge j k with h9 | h9
          · exact H0.out j h9
          · obtain rfl : j = k := by omega
            exact h
        have CSW1 := Lib.hid (fun X cx W h1 h2 => CSW0.out X cx k W h1 h2)
        clear H0 HH1 HH2 CSW0
        rw [← hj] at HHK HNX CSW1
        have HJ := Lib.hid hj
        clear hj
        generalize set.take k = tk at *
        generalize set.drop j = dr at *
        rw [← hl2] at hdr
        rw [← hl1] at htk
        obtain ⟨PA, hPA⟩ : ∃ PA, PA = (if cx = j then some ⟨b, off, none⟩ else some ⟨b, off + j, none⟩ : Option Addr) := ⟨_, rfl⟩
        rw [← hPA] at hdr
        by_cases hcj : cx = j
        case pos =>
          rw [if_pos hcj] at hPA
          subst hcj hPA
          have HTK := Lib.hid htk; have HDR := Lib.hid hdr
          have CON : Hid (∀ W g, RL W (some ⟨g, 0, none⟩) 2 [⟨some ⟨b, off, none⟩, cx, tk⟩, ⟨(some ⟨b, off, none⟩), cx - cx, dr⟩] → Calls Tryz.prog 68 #[.slice (some ⟨g, 0, none⟩) 2 2] W (RetS (tk ++ dr) W)) := Lib.hid fun W g h => by
            have h9 := concat_any (some ⟨g, 0, none⟩) 2 [⟨some ⟨b, off, none⟩, cx, tk⟩, ⟨(some ⟨b, off, none⟩), cx - cx, dr⟩] W h (by simp) (by
              show lenTo _ 2 ≤ 1000000
              simp only [lenTo, List.getD_cons_zero, List.getD_cons_succ]
              omega)
            have h8 : catTo [⟨some ⟨b, off, none⟩, cx, tk⟩, ⟨(some ⟨b, off, none⟩), cx - cx, dr⟩] 2 = tk ++ dr := by
              simp only [catTo, List.getD_cons_zero, List.getD_cons_succ, List.nil_append]
            rw [← h8]
            exact h9
          have HV1 : Hid (SI.val ⟨some ⟨b, off, none⟩, cx, tk⟩ = .slice (some ⟨b, off, none⟩) k cx) := Lib.hid (by show Value.slice _ tk.length _ = _; rw [hl1])
          have HV2 : Hid (SI.val ⟨(some ⟨b, off, none⟩), cx - cx, dr⟩ = .slice (some ⟨b, off, none⟩) (set.length - cx) (cx - cx)) := Lib.hid (by show Value.slice _ dr.length _ = _; rw [hl2])
          have HSBL := Lib.hid (HSB.out (tk ++ dr))
          clear htk hdr hl1 hl2 HSB
          generalize tk ++ dr = l at *
          by_cases hz : sh l = 0
          case pos =>
            have HN2 := Lib.hid (HNX.out hz)
            have hsb : sb l = true := by rw [HSBL.out]; exact decide_eq_true hz
            have CSW : Hid (∀ X cx W, SR W ⟨B, d, cs, D, e, ns⟩ → RI W X l.length l → Calls Tryz.prog 62 #[.agg #[.slice B cs.length d, .slice D ns.length e], .slice X l.length cx] W (Ret (.bool true) W)) := Lib.hid (by rw [← hsb]; exact CSW1.out)
            clear HHK HNX hz hsb HSBL CSW1
            go_upto_region 13 with fail
            go_region_held3 (fun W => W.cell? ⟨w1.heap.size, 0, none⟩ = some (.slice B cs.length d) ∧ W.cell? ⟨w1.heap.size, 1, none⟩ = some (.slice D ns.length e) ∧ w1.heap.size < W.heap.size) (first | exact ⟨n0, n1, nl⟩ | (refine ⟨?_, ?_, ?_⟩ <;> first | exact Nat.lt_of_lt_of_le nl (Ext.size (by repeat first | exact yx0 _ | assumption | refine yxa ?_ _ | refine yxd ?_ | refine yxn ?_ _ | refine yxs ?_ (by simp <;> omega) _ | refine yxt ?_ (by assumption))) | go_keep) | go_keep) (first | (go_at_call 68; refine Calls.mono (CON.out _ _ (RL.two2 (t := 25) (by (repeat (first | with_reducible exact Blk.new _ _ _ | with_reducible refine Blk.alloc ?_ _ | with_reducible refine Blk.drew ?_ | with_reducible refine Blk.drewN ?_ _ | refine Blk.ext ?_ (by with_reducible assumption)))) (by exact HV1.out) (by first | exact HV2.out | exact HV2.out.trans (by simp <;> omega)) (HTK.out.ext (HX.out.trans (by repeat first | exact yx0 _ | assumption | refine yxa ?_ _ | refine yxd ?_ | refine yxn ?_ _ | refine yxs ?_ (by simp <;> omega) _ | refine yxt ?_ (by assumption)))) (HDR.out.ext (HX.out.trans (by repeat first | exact yx0 _ | assumption | refine yxa ?_ _ | refine yxd ?_ | refine yxn ?_ _ | refine yxs ?_ (by simp <;> omega) _ | refine yxt ?_ (by assumption)))))) ?_; rintro e9 w4 ⟨ZA, zc, rfl, hsl, hb⟩; have hq := yxx HX.out (by repeat first | exact yx0 _ | assumption | refine yxa ?_ _ | refine yxd ?_ | refine yxn ?_ _ | refine yxs ?_ (by simp <;> omega) _ | refine yxt ?_ (by assumption)) hb; have HK9 := Lib.hid (HK.out.ext hq); have HX9 := Lib.hid (HX.out.trans hq); clear hq; clear n0 n1 nl HK HX; have HK := HK9; have HX := HX9; clear HK9 HX9; obtain ⟨n0, n1, _, _, nl⟩ := HK.out.c2; have HZ := Lib.hid hsl.ri; clear hsl hb) | (go_at_call 62; refine Calls.mono (CSW.out _ _ _ (HSR.out.ext (HX.out.trans (by repeat first | exact yx0 _ | assumption | refine yxa ?_ _ | refine yxd ?_ | refine yxn ?_ _ | refine yxs ?_ (by simp <;> omega) _ | refine yxt ?_ (by assumption)))) (HZ.out.ext (by repeat first | exact yx0 _ | assumption | refine yxa ?_ _ | refine yxd ?_ | refine yxn ?_ _ | refine yxs ?_ (by simp <;> omega) _ | refine yxt ?_ (by assumption)))) ?_; rintro e9 w5 ⟨rfl, hb⟩; have hq := yxx HX.out (by repeat first | exact yx0 _ | assumption | refine yxa ?_ _ | refine yxd ?_ | refine yxn ?_ _ | refine yxs ?_ (by simp <;> omega) _ | refine yxt ?_ (by assumption)) hb; have HK9 := Lib.hid (HK.out.ext hq); have HX9 := Lib.hid (HX.out.trans hq); clear hq; clear n0 n1 nl HK HX; have HK := HK9; have HX := HX9; clear HK9 HX9; obtain ⟨n0, n1, _, _, nl⟩ := HK.out.c2; clear hb))
            go_wp2
            go_roundw
            case rel => exact ⟨k + 1, by omega, by have hj9 := HJ.out; first | go_num | (congr 1; omega), Lib.hid (fun q hq => HN2.out q (by have := HJ.out; omega)), HK, HX⟩
            case measure => have hj9 := HJ.out; simp [intOf] <;> omega
          case neg =>
            obtain ⟨hN, hE⟩ := HHK.out hz
            have hsb : sb l = false := by rw [HSBL.out]; exact decide_eq_false hz
            have CSW : Hid (∀ X cx W, SR W ⟨B, d, cs, D, e, ns⟩ → RI W X l.length l → Calls Tryz.prog 62 #[.agg #[.slice B cs.length d, .slice D ns.length e], .slice X l.length cx] W (Ret (.bool false) W)) := Lib.hid (by rw [← hsb]; exact CSW1.out)
            clear HHK HNX hz hsb HSBL CSW1
            subst hN hE
            go_upto_region 13 with fail
            go_region_held3 (fun W => W.cell? ⟨w1.heap.size, 0, none⟩ = some (.slice B cs.length d) ∧ W.cell? ⟨w1.heap.size, 1, none⟩ = some (.slice D ns.length e) ∧ w1.heap.size < W.heap.size) (first | exact ⟨n0, n1, nl⟩ | (refine ⟨?_, ?_, ?_⟩ <;> first | exact Nat.lt_of_lt_of_le nl (Ext.size (by repeat first | exact yx0 _ | assumption | refine yxa ?_ _ | refine yxd ?_ | refine yxn ?_ _ | refine yxs ?_ (by simp <;> omega) _ | refine yxt ?_ (by assumption))) | go_keep) | go_keep) (first | (go_at_call 68; refine Calls.mono (CON.out _ _ (RL.two2 (t := 25) (by (repeat (first | with_reducible exact Blk.new _ _ _ | with_reducible refine Blk.alloc ?_ _ | with_reducible refine Blk.drew ?_ | with_reducible refine Blk.drewN ?_ _ | refine Blk.ext ?_ (by with_reducible assumption)))) (by exact HV1.out) (by first | exact HV2.out | exact HV2.out.trans (by simp <;> omega)) (HTK.out.ext (HX.out.trans (by repeat first | exact yx0 _ | assumption | refine yxa ?_ _ | refine yxd ?_ | refine yxn ?_ _ | refine yxs ?_ (by simp <;> omega) _ | refine yxt ?_ (by assumption)))) (HDR.out.ext (HX.out.trans (by repeat first | exact yx0 _ | assumption | refine yxa ?_ _ | refine yxd ?_ | refine yxn ?_ _ | refine yxs ?_ (by simp <;> omega) _ | refine yxt ?_ (by assumption)))))) ?_; rintro e9 w4 ⟨ZA, zc, rfl, hsl, hb⟩; have hq := yxx HX.out (by repeat first | exact yx0 _ | assumption | refine yxa ?_ _ | refine yxd ?_ | refine yxn ?_ _ | refine yxs ?_ (by simp <;> omega) _ | refine yxt ?_ (by assumption)) hb; have HK9 := Lib.hid (HK.out.ext hq); have HX9 := Lib.hid (HX.out.trans hq); clear hq; clear n0 n1 nl HK HX; have HK := HK9; have HX := HX9; clear HK9 HX9; obtain ⟨n0, n1, _, _, nl⟩ := HK.out.c2; have HZ := Lib.hid hsl.ri; clear hsl hb) | (go_at_call 62; refine Calls.mono (CSW.out _ _ _ (HSR.out.ext (HX.out.trans (by repeat first | exact yx0 _ | assumption | refine yxa ?_ _ | refine yxd ?_ | refine yxn ?_ _ | refine yxs ?_ (by simp <;> omega) _ | refine yxt ?_ (by assumption)))) (HZ.out.ext (by repeat first | exact yx0 _ | assumption | refine yxa ?_ _ | refine yxd ?_ | refine yxn ?_ _ | refine yxs ?_ (by simp <;> omega) _ | refine yxt ?_ (by assumption)))) ?_; rintro e9 w5 ⟨rfl, hb⟩; have hq := yxx HX.out (by repeat first | exact yx0 _ | assumption | refine yxa ?_ _ | refine yxd ?_ | refine yxn ?_ _ | refine yxs ?_ (by simp <;> omega) _ | refine yxt ?_ (by assumption)) hb; have HK9 := Lib.hid (HK.out.ext hq); have HX9 := Lib.hid (HX.out.trans hq); clear hq; clear n0 n1 nl HK HX; have HK := HK9; have HX := HX9; clear HK9 HX9; obtain ⟨n0, n1, _, _, nl⟩ := HK.out.c2; clear hb))
            go_wp2
            go_ret2
            exact Ret.mk' rfl (HX.out.trans (by repeat first | exact yx0 _ | assumption | refine yxa ?_ _ | refine yxd ?_ | refine yxn ?_ _ | refine yxs ?_ (by simp <;> omega) _ | refine yxt ?_ (by assumption)))
        case neg =>
          rw [if_neg hcj] at hPA
          subst hPA
          have HTK := Lib.hid htk; have HDR := Lib.hid hdr
          have CON : Hid (∀ W g, RL W (some ⟨g, 0, none⟩) 2 [⟨some ⟨b, off, none⟩, cx, tk⟩, ⟨(some ⟨b, off + j, none⟩), cx - j, dr⟩] → Calls Tryz.prog 68 #[.slice (some ⟨g, 0, none⟩) 2 2] W (RetS (tk ++ dr) W)) := Lib.hid fun W g h => by
            have h9 := concat_any (some ⟨g, 0, none⟩) 2 [⟨some ⟨b, off, none⟩, cx, tk⟩, ⟨(some ⟨b, off + j, none⟩), cx - j, dr⟩] W h (by simp) (by
              show lenTo _ 2 ≤ 1000000
              simp only [lenTo, List.getD_cons_zero, List.getD_cons_succ]
              omega)
            have h8 : catTo [⟨some ⟨b, off, none⟩, cx, tk⟩, ⟨(some ⟨b, off + j, none⟩), cx - j, dr⟩] 2 = tk ++ dr := by
              simp only [catTo, List.getD_cons_zero, List.getD_cons_succ, List.nil_append]
            rw [← h8]
            exact h9
          have HV1 : Hid (SI.val ⟨some ⟨b, off, none⟩, cx, tk⟩ = .slice (some ⟨b, off, none⟩) k cx) := Lib.hid (by show Value.slice _ tk.length _ = _; rw [hl1])
          have HV2 : Hid (SI.val ⟨(some ⟨b, off + j, none⟩), cx - j, dr⟩ = .slice (some ⟨b, off + j, none⟩) (set.length - j) (cx - j)) := Lib.hid (by show Value.slice _ dr.length _ = _; rw [hl2])
          have HSBL := Lib.hid (HSB.out (tk ++ dr))
          clear htk hdr hl1 hl2 HSB
          generalize tk ++ dr = l at *
          by_cases hz : sh l = 0
          case pos =>
            have HN2 := Lib.hid (HNX.out hz)
            have hsb : sb l = true := by rw [HSBL.out]; exact decide_eq_true hz
            have CSW : Hid (∀ X cx W, SR W ⟨B, d, cs, D, e, ns⟩ → RI W X l.length l → Calls Tryz.prog 62 #[.agg #[.slice B cs.length d, .slice D ns.length e], .slice X l.length cx] W (Ret (.bool true) W)) := Lib.hid (by rw [← hsb]; exact CSW1.out)
            clear HHK HNX hz hsb HSBL CSW1
            go_upto_region 13 with fail
            go_region_held3 (fun W => W.cell? ⟨w1.heap.size, 0, none⟩ = some (.slice B cs.length d) ∧ W.cell? ⟨w1.heap.size, 1, none⟩ = some (.slice D ns.length e) ∧ w1.heap.size < W.heap.size) (first | exact ⟨n0, n1, nl⟩ | (refine ⟨?_, ?_, ?_⟩ <;> first | exact Nat.lt_of_lt_of_le nl (Ext.size (by repeat first | exact yx0 _ | assumption | refine yxa ?_ _ | refine yxd ?_ | refine yxn ?_ _ | refine yxs ?_ (by simp <;> omega) _ | refine yxt ?_ (by assumption))) | go_keep) | go_keep) (first | (go_at_call 68; refine Calls.mono (CON.out _ _ (RL.two2 (t := 25) (by (repeat (first | with_reducible exact Blk.new _ _ _ | with_reducible refine Blk.alloc ?_ _ | with_reducible refine Blk.drew ?_ | with_reducible refine Blk.drewN ?_ _ | refine Blk.ext ?_ (by with_reducible assumption)))) (by exact HV1.out) (by first | exact HV2.out | exact HV2.out.trans (by simp <;> omega)) (HTK.out.ext (HX.out.trans (by repeat first | exact yx0 _ | assumption | refine yxa ?_ _ | refine yxd ?_ | refine yxn ?_ _ | refine yxs ?_ (by simp <;> omega) _ | refine yxt ?_ (by assumption)))) (HDR.out.ext (HX.out.trans (by repeat first | exact yx0 _ | assumption | refine yxa ?_ _ | refine yxd ?_ | refine yxn ?_ _ | refine yxs ?_ (by simp <;> omega) _ | refine yxt ?_ (by assumption)))))) ?_; rintro e9 w4 ⟨ZA, zc, rfl, hsl, hb⟩; have hq := yxx HX.out (by repeat first | exact yx0 _ | assumption | refine yxa ?_ _ | refine yxd ?_ | refine yxn ?_ _ | refine yxs ?_ (by simp <;> omega) _ | refine yxt ?_ (by assumption)) hb; have HK9 := Lib.hid (HK.out.ext hq); have HX9 := Lib.hid (HX.out.trans hq); clear hq; clear n0 n1 nl HK HX; have HK := HK9; have HX := HX9; clear HK9 HX9; obtain ⟨n0, n1, _, _, nl⟩ := HK.out.c2; have HZ := Lib.hid hsl.ri; clear hsl hb) | (go_at_call 62; refine Calls.mono (CSW.out _ _ _ (HSR.out.ext (HX.out.trans (by repeat first | exact yx0 _ | assumption | refine yxa ?_ _ | refine yxd ?_ | refine yxn ?_ _ | refine yxs ?_ (by simp <;> omega) _ | refine yxt ?_ (by assumption)))) (HZ.out.ext (by repeat first | exact yx0 _ | assumption | refine yxa ?_ _ | refine yxd ?_ | refine yxn ?_ _ | refine yxs ?_ (by simp <;> omega) _ | refine yxt ?_ (by assumption)))) ?_; rintro e9 w5 ⟨rfl, hb⟩; have hq := yxx HX.out (by repeat first | exact yx0 _ | assumption | refine yxa ?_ _ | refine yxd ?_ | refine yxn ?_ _ | refine yxs ?_ (by simp <;> omega) _ | refine yxt ?_ (by assumption)) hb; have HK9 := Lib.hid (HK.out.ext hq); have HX9 := Lib.hid (HX.out.trans hq); clear hq; clear n0 n1 nl HK HX; have HK := HK9; have HX := HX9; clear HK9 HX9; obtain ⟨n0, n1, _, _, nl⟩ := HK.out.c2; clear hb))
            go_wp2
            go_roundw
            case rel => exact ⟨k + 1, by omega, by have hj9 := HJ.out; first | go_num | (congr 1; omega), Lib.hid (fun q hq => HN2.out q (by have := HJ.out; omega)), HK, HX⟩
            case measure => have hj9 := HJ.out; simp [intOf] <;> omega
          case neg =>
            obtain ⟨hN, hE⟩ := HHK.out hz
            have hsb : sb l = false := by rw [HSBL.out]; exact decide_eq_false hz
            have CSW : Hid (∀ X cx W, SR W ⟨B, d, cs, D, e, ns⟩ → RI W X l.length l → Calls Tryz.prog 62 #[.agg #[.slice B cs.length d, .slice D ns.length e], .slice X l.length cx] W (Ret (.bool false) W)) := Lib.hid (by rw [← hsb]; exact CSW1.out)
            clear HHK HNX hz hsb HSBL CSW1
            subst hN hE
            go_upto_region 13 with fail
            go_region_held3 (fun W => W.cell? ⟨w1.heap.size, 0, none⟩ = some (.slice B cs.length d) ∧ W.cell? ⟨w1.heap.size, 1, none⟩ = some (.slice D ns.length e) ∧ w1.heap.size < W.heap.size) (first | exact ⟨n0, n1, nl⟩ | (refine ⟨?_, ?_, ?_⟩ <;> first | exact Nat.lt_of_lt_of_le nl (Ext.size (by repeat first | exact yx0 _ | assumption | refine yxa ?_ _ | refine yxd ?_ | refine yxn ?_ _ | refine yxs ?_ (by simp <;> omega) _ | refine yxt ?_ (by assumption))) | go_keep) | go_keep) (first | (go_at_call 68; refine Calls.mono (CON.out _ _ (RL.two2 (t := 25) (by (repeat (first | with_reducible exact Blk.new _ _ _ | with_reducible refine Blk.alloc ?_ _ | with_reducible refine Blk.drew ?_ | with_reducible refine Blk.drewN ?_ _ | refine Blk.ext ?_ (by with_reducible assumption)))) (by exact HV1.out) (by first | exact HV2.out | exact HV2.out.trans (by simp <;> omega)) (HTK.out.ext (HX.out.trans (by repeat first | exact yx0 _ | assumption | refine yxa ?_ _ | refine yxd ?_ | refine yxn ?_ _ | refine yxs ?_ (by simp <;> omega) _ | refine yxt ?_ (by assumption)))) (HDR.out.ext (HX.out.trans (by repeat first | exact yx0 _ | assumption | refine yxa ?_ _ | refine yxd ?_ | refine yxn ?_ _ | refine yxs ?_ (by simp <;> omega) _ | refine yxt ?_ (by assumption)))))) ?_; rintro e9 w4 ⟨ZA, zc, rfl, hsl, hb⟩; have hq := yxx HX.out (by repeat first | exact yx0 _ | assumption | refine yxa ?_ _ | refine yxd ?_ | refine yxn ?_ _ | refine yxs ?_ (by simp <;> omega) _ | refine yxt ?_ (by assumption)) hb; have HK9 := Lib.hid (HK.out.ext hq); have HX9 := Lib.hid (HX.out.trans hq); clear hq; clear n0 n1 nl HK HX; have HK := HK9; have HX := HX9; clear HK9 HX9; obtain ⟨n0, n1, _, _, nl⟩ := HK.out.c2; have HZ := Lib.hid hsl.ri; clear hsl hb) | (go_at_call 62; refine Calls.mono (CSW.out _ _ _ (HSR.out.ext (HX.out.trans (by repeat first | exact yx0 _ | assumption | refine yxa ?_ _ | refine yxd ?_ | refine yxn ?_ _ | refine yxs ?_ (by simp <;> omega) _ | refine yxt ?_ (by assumption)))) (HZ.out.ext (by repeat first | exact yx0 _ | assumption | refine yxa ?_ _ | refine yxd ?_ | refine yxn ?_ _ | refine yxs ?_ (by simp <;> omega) _ | refine yxt ?_ (by assumption)))) ?_; rintro e9 w5 ⟨rfl, hb⟩; have hq := yxx HX.out (by repeat first | exact yx0 _ | assumption | refine yxa ?_ _ | refine yxd ?_ | refine yxn ?_ _ | refine yxs ?_ (by simp <;> omega) _ | refine yxt ?_ (by assumption)) hb; have HK9 := Lib.hid (HK.out.ext hq); have HX9 := Lib.hid (HX.out.trans hq); clear hq; clear n0 n1 nl HK HX; have HK := HK9; have HX := HX9; clear HK9 HX9; obtain ⟨n0, n1, _, _, nl⟩ := HK.out.c2; clear hb))
            go_wp2
            go_ret2
            exact Ret.mk' rfl (HX.out.trans (by repeat first | exact yx0 _ | assumption | refine yxa ?_ _ | refine yxd ?_ | refine yxn ?_ _ | refine yxs ?_ (by simp <;> omega) _ | refine yxt ?_ (by assumption)))
end Go.Proofs.YtfkjhgcablakgaaGreatDoor
