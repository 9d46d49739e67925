/-
  Walk: FountShares returns true.
-/
import Derived.Test.YtphkffndhifdkaaDoorSharesLaw
import Derived.Test.YtphkffndhifdkaaDoorGcd
import Derived.Test.YtphkffndhifdkaaDoorCopy
namespace Go.Proofs.YtphkffndhifdkaaDoor.shares
open Go.RowKit parted
set_option maxRecDepth 1000000 in
set_option maxHeartbeats 16000000 in
theorem walk (f : FT) (A : Option Addr) (c : Nat) (X : Option Addr) (cx : Nat) (ns : List Int) (total : Int) (w : World) (hf : FR w A c f) (hx : RI w X ns.length ns) (_hxz : ∀ z ∈ ns, I64 z) (_hz : I64 total) (hT : Tabs w) :
    Calls Tryd.prog 3 #[f.val A c, .slice X ns.length cx, .int .i64 total] w (Ret (.bool true) w) := by
  have cFew := fun W h => few_any f A c W h
  have cC := fun W h1 h2 => rCheckCase_any f A c X cx ns W h1 h2
  have HF := Lib.hid hf; have HX := Lib.hid hx; have HT := Lib.hid hT; clear hf hx hT
  cases hfw : fewB f with
  | false =>
    rw [hfw] at cFew
    obtain ⟨name, body, ss⟩ := f
    simp only [FT.val] at *
    have CF := Lib.hid cFew; clear cFew cC hfw
    go_enter Tryd.func3, Tryd.ntmps3
    go_wp2_with (first | (go_at_call 13; refine Calls.mono (awake_any _ (HT.out.ext (by repeat (first | exact Ext.refl _ | assumption | refine Ext.alloc ?_ _ | refine Ext.drew ?_ | refine Ext.drewN ?_ _ | (refine Ext.setCell ?_ (by simp <;> omega) _) | refine Ext.trans ?_ (by assumption))))) ?_; rintro e w1 ⟨rfl, hb⟩; have HB := Lib.hid (Box.start (name := name) (body := body) (A := A) (n := ss.length) (c := c) w (Ext.trans (by repeat (first | exact Ext.refl _ | assumption | refine Ext.alloc ?_ _ | refine Ext.drew ?_ | refine Ext.drewN ?_ _ | (refine Ext.setCell ?_ (by simp <;> omega) _) | refine Ext.trans ?_ (by assumption))) hb)); obtain ⟨b0, b1, b2, bl⟩ := HB.out.blk.c3; have q9 := Lib.hid (HF.out.ext (Ext.trans (by repeat (first | exact Ext.refl _ | assumption | refine Ext.alloc ?_ _ | refine Ext.drew ?_ | refine Ext.drewN ?_ _ | (refine Ext.setCell ?_ (by simp <;> omega) _) | refine Ext.trans ?_ (by assumption))) hb)); clear HF; have HF := q9; clear q9; have q9 := Lib.hid (HX.out.ext (Ext.trans (by repeat (first | exact Ext.refl _ | assumption | refine Ext.alloc ?_ _ | refine Ext.drew ?_ | refine Ext.drewN ?_ _ | (refine Ext.setCell ?_ (by simp <;> omega) _) | refine Ext.trans ?_ (by assumption))) hb)); clear HX; have HX := q9; clear q9; have q9 := Lib.hid (HT.out.ext (Ext.trans (by repeat (first | exact Ext.refl _ | assumption | refine Ext.alloc ?_ _ | refine Ext.drew ?_ | refine Ext.drewN ?_ _ | (refine Ext.setCell ?_ (by simp <;> omega) _) | refine Ext.trans ?_ (by assumption))) hb)); clear HT; have HT := q9; clear q9; clear hb) | (go_at_call 14; refine Calls.mono (CF.out _ ?_) ?_; (exact HF.out.ext (by repeat (first | exact Ext.refl _ | assumption | refine Ext.alloc ?_ _ | refine Ext.drew ?_ | refine Ext.drewN ?_ _ | (refine Ext.setCell ?_ (by simp <;> omega) _) | refine Ext.trans ?_ (by assumption)))); rintro e w1 ⟨rfl, hb⟩; have HB9 := Lib.hid (HB.out.next (Ext.trans (by repeat (first | exact Ext.refl _ | assumption | refine Ext.alloc ?_ _ | refine Ext.drew ?_ | refine Ext.drewN ?_ _ | (refine Ext.setCell ?_ (by simp <;> omega) _) | refine Ext.trans ?_ (by assumption))) hb)); clear b0 b1 b2 bl HB; have HB := HB9; clear HB9; obtain ⟨b0, b1, b2, bl⟩ := HB.out.blk.c3; have q9 := Lib.hid (HF.out.ext (Ext.trans (by repeat (first | exact Ext.refl _ | assumption | refine Ext.alloc ?_ _ | refine Ext.drew ?_ | refine Ext.drewN ?_ _ | (refine Ext.setCell ?_ (by simp <;> omega) _) | refine Ext.trans ?_ (by assumption))) hb)); clear HF; have HF := q9; clear q9; have q9 := Lib.hid (HX.out.ext (Ext.trans (by repeat (first | exact Ext.refl _ | assumption | refine Ext.alloc ?_ _ | refine Ext.drew ?_ | refine Ext.drewN ?_ _ | (refine Ext.setCell ?_ (by simp <;> omega) _) | refine Ext.trans ?_ (by assumption))) hb)); clear HX; have HX := q9; clear q9; have q9 := Lib.hid (HT.out.ext (Ext.trans (by repeat (first | exact Ext.refl _ | assumption | refine Ext.alloc ?_ _ | refine Ext.drew ?_ | refine Ext.drewN ?_ _ | (refine Ext.setCell ?_ (by simp <;> omega) _) | refine Ext.trans ?_ (by assumption))) hb)); clear HT; have HT := q9; clear q9; clear hb))
    go_ret
    exact Ret.mk' rfl (HB.out.ext.trans (by repeat (first | exact Ext.refl _ | assumption | refine Ext.alloc ?_ _ | refine Ext.drew ?_ | refine Ext.drewN ?_ _ | (refine Ext.setCell ?_ (by simp <;> omega) _) | refine Ext.trans ?_ (by assumption))))
  | true =>
  rw [hfw] at cFew
  by_cases hce : caseErr f ns = 0
  case neg =>
    generalize caseErr f ns = ce at *
    have e1 : (ce != 0) = true := by simpa using hce
    obtain ⟨name, body, ss⟩ := f
    simp only [FT.val] at *
    have CF := Lib.hid cFew; have CC := Lib.hid cC; clear cFew cC hce hfw
    go_enter Tryd.func3, Tryd.ntmps3
    go_wp2_with (first | (go_at_call 13; refine Calls.mono (awake_any _ (HT.out.ext (by repeat (first | exact Ext.refl _ | assumption | refine Ext.alloc ?_ _ | refine Ext.drew ?_ | refine Ext.drewN ?_ _ | (refine Ext.setCell ?_ (by simp <;> omega) _) | refine Ext.trans ?_ (by assumption))))) ?_; rintro e w1 ⟨rfl, hb⟩; have HB := Lib.hid (Box.start (name := name) (body := body) (A := A) (n := ss.length) (c := c) w (Ext.trans (by repeat (first | exact Ext.refl _ | assumption | refine Ext.alloc ?_ _ | refine Ext.drew ?_ | refine Ext.drewN ?_ _ | (refine Ext.setCell ?_ (by simp <;> omega) _) | refine Ext.trans ?_ (by assumption))) hb)); obtain ⟨b0, b1, b2, bl⟩ := HB.out.blk.c3; have q9 := Lib.hid (HF.out.ext (Ext.trans (by repeat (first | exact Ext.refl _ | assumption | refine Ext.alloc ?_ _ | refine Ext.drew ?_ | refine Ext.drewN ?_ _ | (refine Ext.setCell ?_ (by simp <;> omega) _) | refine Ext.trans ?_ (by assumption))) hb)); clear HF; have HF := q9; clear q9; have q9 := Lib.hid (HX.out.ext (Ext.trans (by repeat (first | exact Ext.refl _ | assumption | refine Ext.alloc ?_ _ | refine Ext.drew ?_ | refine Ext.drewN ?_ _ | (refine Ext.setCell ?_ (by simp <;> omega) _) | refine Ext.trans ?_ (by assumption))) hb)); clear HX; have HX := q9; clear q9; have q9 := Lib.hid (HT.out.ext (Ext.trans (by repeat (first | exact Ext.refl _ | assumption | refine Ext.alloc ?_ _ | refine Ext.drew ?_ | refine Ext.drewN ?_ _ | (refine Ext.setCell ?_ (by simp <;> omega) _) | refine Ext.trans ?_ (by assumption))) hb)); clear HT; have HT := q9; clear q9; clear hb) | (go_at_call 14; refine Calls.mono (CF.out _ ?_) ?_; (exact HF.out.ext (by repeat (first | exact Ext.refl _ | assumption | refine Ext.alloc ?_ _ | refine Ext.drew ?_ | refine Ext.drewN ?_ _ | (refine Ext.setCell ?_ (by simp <;> omega) _) | refine Ext.trans ?_ (by assumption)))); rintro e w1 ⟨rfl, hb⟩; have HB9 := Lib.hid (HB.out.next (Ext.trans (by repeat (first | exact Ext.refl _ | assumption | refine Ext.alloc ?_ _ | refine Ext.drew ?_ | refine Ext.drewN ?_ _ | (refine Ext.setCell ?_ (by simp <;> omega) _) | refine Ext.trans ?_ (by assumption))) hb)); clear b0 b1 b2 bl HB; have HB := HB9; clear HB9; obtain ⟨b0, b1, b2, bl⟩ := HB.out.blk.c3; have q9 := Lib.hid (HF.out.ext (Ext.trans (by repeat (first | exact Ext.refl _ | assumption | refine Ext.alloc ?_ _ | refine Ext.drew ?_ | refine Ext.drewN ?_ _ | (refine Ext.setCell ?_ (by simp <;> omega) _) | refine Ext.trans ?_ (by assumption))) hb)); clear HF; have HF := q9; clear q9; have q9 := Lib.hid (HX.out.ext (Ext.trans (by repeat (first | exact Ext.refl _ | assumption | refine Ext.alloc ?_ _ | refine Ext.drew ?_ | refine Ext.drewN ?_ _ | (refine Ext.setCell ?_ (by simp <;> omega) _) | refine Ext.trans ?_ (by assumption))) hb)); clear HX; have HX := q9; clear q9; have q9 := Lib.hid (HT.out.ext (Ext.trans (by repeat (first | exact Ext.refl _ | assumption | refine Ext.alloc ?_ _ | refine Ext.drew ?_ | refine Ext.drewN ?_ _ | (refine Ext.setCell ?_ (by simp <;> omega) _) | refine Ext.trans ?_ (by assumption))) hb)); clear HT; have HT := q9; clear q9; clear hb) | (go_at_call 15; refine Calls.mono (CC.out _ ?_ ?_) ?_; (exact HF.out.ext (by repeat (first | exact Ext.refl _ | assumption | refine Ext.alloc ?_ _ | refine Ext.drew ?_ | refine Ext.drewN ?_ _ | (refine Ext.setCell ?_ (by simp <;> omega) _) | refine Ext.trans ?_ (by assumption)))); (exact HX.out.ext (by repeat (first | exact Ext.refl _ | assumption | refine Ext.alloc ?_ _ | refine Ext.drew ?_ | refine Ext.drewN ?_ _ | (refine Ext.setCell ?_ (by simp <;> omega) _) | refine Ext.trans ?_ (by assumption)))); rintro e w1 ⟨rfl, hb⟩; have HB9 := Lib.hid (HB.out.next (Ext.trans (by repeat (first | exact Ext.refl _ | assumption | refine Ext.alloc ?_ _ | refine Ext.drew ?_ | refine Ext.drewN ?_ _ | (refine Ext.setCell ?_ (by simp <;> omega) _) | refine Ext.trans ?_ (by assumption))) hb)); clear b0 b1 b2 bl HB; have HB := HB9; clear HB9; obtain ⟨b0, b1, b2, bl⟩ := HB.out.blk.c3; have q9 := Lib.hid (HF.out.ext (Ext.trans (by repeat (first | exact Ext.refl _ | assumption | refine Ext.alloc ?_ _ | refine Ext.drew ?_ | refine Ext.drewN ?_ _ | (refine Ext.setCell ?_ (by simp <;> omega) _) | refine Ext.trans ?_ (by assumption))) hb)); clear HF; have HF := q9; clear q9; have q9 := Lib.hid (HX.out.ext (Ext.trans (by repeat (first | exact Ext.refl _ | assumption | refine Ext.alloc ?_ _ | refine Ext.drew ?_ | refine Ext.drewN ?_ _ | (refine Ext.setCell ?_ (by simp <;> omega) _) | refine Ext.trans ?_ (by assumption))) hb)); clear HX; have HX := q9; clear q9; have q9 := Lib.hid (HT.out.ext (Ext.trans (by repeat (first | exact Ext.refl _ | assumption | refine Ext.alloc ?_ _ | refine Ext.drew ?_ | refine Ext.drewN ?_ _ | (refine Ext.setCell ?_ (by simp <;> omega) _) | refine Ext.trans ?_ (by assumption))) hb)); clear HT; have HT := q9; clear q9; clear hb))
    go_ret
    exact Ret.mk' rfl (HB.out.ext.trans (by repeat (first | exact Ext.refl _ | assumption | refine Ext.alloc ?_ _ | refine Ext.drew ?_ | refine Ext.drewN ?_ _ | (refine Ext.setCell ?_ (by simp <;> omega) _) | refine Ext.trans ?_ (by assumption))))
  case pos =>
  rw [hce] at cC
  have hn10 := few_ten hfw hce
  clear hfw
  have cB := fun W h1 h2 => billFor_any f A c X cx ns total W h1 h2 (fun _ => by omega)
  obtain ⟨hck, hcn⟩ := case_zero hce
  obtain ⟨l1, bn⟩ := counts_zero hcn
  have hn1 : 1 ≤ ns.length := by have := (chk_zero hck).2.1; omega
  by_cases hr : 0 ≤ total ∧ total ≤ 1000000
  case neg =>
    have hb : billR f ns total = ([], 2) := by unfold billR; rw [if_neg (by rw [hce]; simp), if_pos hr]
    rw [hb] at cB
    clear hce hck hcn l1 bn hb
    obtain ⟨name, body, ss⟩ := f
    simp only [FT.val] at *
    have CF := Lib.hid cFew; have CC := Lib.hid cC; have CB := Lib.hid cB; clear cFew cC cB
    go_enter Tryd.func3, Tryd.ntmps3
    go_wp2_with (first | (go_at_call 13; refine Calls.mono (awake_any _ (HT.out.ext (by repeat (first | exact Ext.refl _ | assumption | refine Ext.alloc ?_ _ | refine Ext.drew ?_ | refine Ext.drewN ?_ _ | (refine Ext.setCell ?_ (by simp <;> omega) _) | refine Ext.trans ?_ (by assumption))))) ?_; rintro e w1 ⟨rfl, hb⟩; have HB := Lib.hid (Box.start (name := name) (body := body) (A := A) (n := ss.length) (c := c) w (Ext.trans (by repeat (first | exact Ext.refl _ | assumption | refine Ext.alloc ?_ _ | refine Ext.drew ?_ | refine Ext.drewN ?_ _ | (refine Ext.setCell ?_ (by simp <;> omega) _) | refine Ext.trans ?_ (by assumption))) hb)); obtain ⟨b0, b1, b2, bl⟩ := HB.out.blk.c3; have q9 := Lib.hid (HF.out.ext (Ext.trans (by repeat (first | exact Ext.refl _ | assumption | refine Ext.alloc ?_ _ | refine Ext.drew ?_ | refine Ext.drewN ?_ _ | (refine Ext.setCell ?_ (by simp <;> omega) _) | refine Ext.trans ?_ (by assumption))) hb)); clear HF; have HF := q9; clear q9; have q9 := Lib.hid (HX.out.ext (Ext.trans (by repeat (first | exact Ext.refl _ | assumption | refine Ext.alloc ?_ _ | refine Ext.drew ?_ | refine Ext.drewN ?_ _ | (refine Ext.setCell ?_ (by simp <;> omega) _) | refine Ext.trans ?_ (by assumption))) hb)); clear HX; have HX := q9; clear q9; have q9 := Lib.hid (HT.out.ext (Ext.trans (by repeat (first | exact Ext.refl _ | assumption | refine Ext.alloc ?_ _ | refine Ext.drew ?_ | refine Ext.drewN ?_ _ | (refine Ext.setCell ?_ (by simp <;> omega) _) | refine Ext.trans ?_ (by assumption))) hb)); clear HT; have HT := q9; clear q9; clear hb) | (go_at_call 14; refine Calls.mono (CF.out _ ?_) ?_; (exact HF.out.ext (by repeat (first | exact Ext.refl _ | assumption | refine Ext.alloc ?_ _ | refine Ext.drew ?_ | refine Ext.drewN ?_ _ | (refine Ext.setCell ?_ (by simp <;> omega) _) | refine Ext.trans ?_ (by assumption)))); rintro e w1 ⟨rfl, hb⟩; have HB9 := Lib.hid (HB.out.next (Ext.trans (by repeat (first | exact Ext.refl _ | assumption | refine Ext.alloc ?_ _ | refine Ext.drew ?_ | refine Ext.drewN ?_ _ | (refine Ext.setCell ?_ (by simp <;> omega) _) | refine Ext.trans ?_ (by assumption))) hb)); clear b0 b1 b2 bl HB; have HB := HB9; clear HB9; obtain ⟨b0, b1, b2, bl⟩ := HB.out.blk.c3; have q9 := Lib.hid (HF.out.ext (Ext.trans (by repeat (first | exact Ext.refl _ | assumption | refine Ext.alloc ?_ _ | refine Ext.drew ?_ | refine Ext.drewN ?_ _ | (refine Ext.setCell ?_ (by simp <;> omega) _) | refine Ext.trans ?_ (by assumption))) hb)); clear HF; have HF := q9; clear q9; have q9 := Lib.hid (HX.out.ext (Ext.trans (by repeat (first | exact Ext.refl _ | assumption | refine Ext.alloc ?_ _ | refine Ext.drew ?_ | refine Ext.drewN ?_ _ | (refine Ext.setCell ?_ (by simp <;> omega) _) | refine Ext.trans ?_ (by assumption))) hb)); clear HX; have HX := q9; clear q9; have q9 := Lib.hid (HT.out.ext (Ext.trans (by repeat (first | exact Ext.refl _ | assumption | refine Ext.alloc ?_ _ | refine Ext.drew ?_ | refine Ext.drewN ?_ _ | (refine Ext.setCell ?_ (by simp <;> omega) _) | refine Ext.trans ?_ (by assumption))) hb)); clear HT; have HT := q9; clear q9; clear hb) | (go_at_call 15; refine Calls.mono (CC.out _ ?_ ?_) ?_; (exact HF.out.ext (by repeat (first | exact Ext.refl _ | assumption | refine Ext.alloc ?_ _ | refine Ext.drew ?_ | refine Ext.drewN ?_ _ | (refine Ext.setCell ?_ (by simp <;> omega) _) | refine Ext.trans ?_ (by assumption)))); (exact HX.out.ext (by repeat (first | exact Ext.refl _ | assumption | refine Ext.alloc ?_ _ | refine Ext.drew ?_ | refine Ext.drewN ?_ _ | (refine Ext.setCell ?_ (by simp <;> omega) _) | refine Ext.trans ?_ (by assumption)))); rintro e w1 ⟨rfl, hb⟩; have HB9 := Lib.hid (HB.out.next (Ext.trans (by repeat (first | exact Ext.refl _ | assumption | refine Ext.alloc ?_ _ | refine Ext.drew ?_ | refine Ext.drewN ?_ _ | (refine Ext.setCell ?_ (by simp <;> omega) _) | refine Ext.trans ?_ (by assumption))) hb)); clear b0 b1 b2 bl HB; have HB := HB9; clear HB9; obtain ⟨b0, b1, b2, bl⟩ := HB.out.blk.c3; have q9 := Lib.hid (HF.out.ext (Ext.trans (by repeat (first | exact Ext.refl _ | assumption | refine Ext.alloc ?_ _ | refine Ext.drew ?_ | refine Ext.drewN ?_ _ | (refine Ext.setCell ?_ (by simp <;> omega) _) | refine Ext.trans ?_ (by assumption))) hb)); clear HF; have HF := q9; clear q9; have q9 := Lib.hid (HX.out.ext (Ext.trans (by repeat (first | exact Ext.refl _ | assumption | refine Ext.alloc ?_ _ | refine Ext.drew ?_ | refine Ext.drewN ?_ _ | (refine Ext.setCell ?_ (by simp <;> omega) _) | refine Ext.trans ?_ (by assumption))) hb)); clear HX; have HX := q9; clear q9; have q9 := Lib.hid (HT.out.ext (Ext.trans (by repeat (first | exact Ext.refl _ | assumption | refine Ext.alloc ?_ _ | refine Ext.drew ?_ | refine Ext.drewN ?_ _ | (refine Ext.setCell ?_ (by simp <;> omega) _) | refine Ext.trans ?_ (by assumption))) hb)); clear HT; have HT := q9; clear q9; clear hb) | (go_at_call 16; refine Calls.mono (CB.out _ ?_ ?_) ?_; (exact HF.out.ext (by repeat (first | exact Ext.refl _ | assumption | refine Ext.alloc ?_ _ | refine Ext.drew ?_ | refine Ext.drewN ?_ _ | (refine Ext.setCell ?_ (by simp <;> omega) _) | refine Ext.trans ?_ (by assumption)))); (exact HX.out.ext (by repeat (first | exact Ext.refl _ | assumption | refine Ext.alloc ?_ _ | refine Ext.drew ?_ | refine Ext.drewN ?_ _ | (refine Ext.setCell ?_ (by simp <;> omega) _) | refine Ext.trans ?_ (by assumption)))); rintro e w1 ⟨Z, cz, rfl, hS, hb⟩; have HB9 := Lib.hid (HB.out.next (Ext.trans (by repeat (first | exact Ext.refl _ | assumption | refine Ext.alloc ?_ _ | refine Ext.drew ?_ | refine Ext.drewN ?_ _ | (refine Ext.setCell ?_ (by simp <;> omega) _) | refine Ext.trans ?_ (by assumption))) hb)); clear b0 b1 b2 bl HB; have HB := HB9; clear HB9; obtain ⟨b0, b1, b2, bl⟩ := HB.out.blk.c3; have q9 := Lib.hid (HF.out.ext (Ext.trans (by repeat (first | exact Ext.refl _ | assumption | refine Ext.alloc ?_ _ | refine Ext.drew ?_ | refine Ext.drewN ?_ _ | (refine Ext.setCell ?_ (by simp <;> omega) _) | refine Ext.trans ?_ (by assumption))) hb)); clear HF; have HF := q9; clear q9; have q9 := Lib.hid (HX.out.ext (Ext.trans (by repeat (first | exact Ext.refl _ | assumption | refine Ext.alloc ?_ _ | refine Ext.drew ?_ | refine Ext.drewN ?_ _ | (refine Ext.setCell ?_ (by simp <;> omega) _) | refine Ext.trans ?_ (by assumption))) hb)); clear HX; have HX := q9; clear q9; have q9 := Lib.hid (HT.out.ext (Ext.trans (by repeat (first | exact Ext.refl _ | assumption | refine Ext.alloc ?_ _ | refine Ext.drew ?_ | refine Ext.drewN ?_ _ | (refine Ext.setCell ?_ (by simp <;> omega) _) | refine Ext.trans ?_ (by assumption))) hb)); clear HT; have HT := q9; clear q9; have HZ := Lib.hid hS.ri; clear hS; clear hb))
    go_ret
    exact Ret.mk' rfl (HB.out.ext.trans (by repeat (first | exact Ext.refl _ | assumption | refine Ext.alloc ?_ _ | refine Ext.drew ?_ | refine Ext.drewN ?_ _ | (refine Ext.setCell ?_ (by simp <;> omega) _) | refine Ext.trans ?_ (by assumption))))
  case pos =>
  obtain ⟨t1, t2⟩ := hr
  by_cases hs : sumZ ns ns.length = 0
  case pos =>
    have hb : billR f ns total = ([], 11) := by unfold billR; rw [if_neg (by rw [hce]; simp), if_neg (by simp; omega), if_pos hs]
    rw [hb] at cB
    clear hce hck hcn l1 bn hb hs
    obtain ⟨name, body, ss⟩ := f
    simp only [FT.val] at *
    have CF := Lib.hid cFew; have CC := Lib.hid cC; have CB := Lib.hid cB; clear cFew cC cB
    go_enter Tryd.func3, Tryd.ntmps3
    go_wp2_with (first | (go_at_call 13; refine Calls.mono (awake_any _ (HT.out.ext (by repeat (first | exact Ext.refl _ | assumption | refine Ext.alloc ?_ _ | refine Ext.drew ?_ | refine Ext.drewN ?_ _ | (refine Ext.setCell ?_ (by simp <;> omega) _) | refine Ext.trans ?_ (by assumption))))) ?_; rintro e w1 ⟨rfl, hb⟩; have HB := Lib.hid (Box.start (name := name) (body := body) (A := A) (n := ss.length) (c := c) w (Ext.trans (by repeat (first | exact Ext.refl _ | assumption | refine Ext.alloc ?_ _ | refine Ext.drew ?_ | refine Ext.drewN ?_ _ | (refine Ext.setCell ?_ (by simp <;> omega) _) | refine Ext.trans ?_ (by assumption))) hb)); obtain ⟨b0, b1, b2, bl⟩ := HB.out.blk.c3; have q9 := Lib.hid (HF.out.ext (Ext.trans (by repeat (first | exact Ext.refl _ | assumption | refine Ext.alloc ?_ _ | refine Ext.drew ?_ | refine Ext.drewN ?_ _ | (refine Ext.setCell ?_ (by simp <;> omega) _) | refine Ext.trans ?_ (by assumption))) hb)); clear HF; have HF := q9; clear q9; have q9 := Lib.hid (HX.out.ext (Ext.trans (by repeat (first | exact Ext.refl _ | assumption | refine Ext.alloc ?_ _ | refine Ext.drew ?_ | refine Ext.drewN ?_ _ | (refine Ext.setCell ?_ (by simp <;> omega) _) | refine Ext.trans ?_ (by assumption))) hb)); clear HX; have HX := q9; clear q9; have q9 := Lib.hid (HT.out.ext (Ext.trans (by repeat (first | exact Ext.refl _ | assumption | refine Ext.alloc ?_ _ | refine Ext.drew ?_ | refine Ext.drewN ?_ _ | (refine Ext.setCell ?_ (by simp <;> omega) _) | refine Ext.trans ?_ (by assumption))) hb)); clear HT; have HT := q9; clear q9; clear hb) | (go_at_call 14; refine Calls.mono (CF.out _ ?_) ?_; (exact HF.out.ext (by repeat (first | exact Ext.refl _ | assumption | refine Ext.alloc ?_ _ | refine Ext.drew ?_ | refine Ext.drewN ?_ _ | (refine Ext.setCell ?_ (by simp <;> omega) _) | refine Ext.trans ?_ (by assumption)))); rintro e w1 ⟨rfl, hb⟩; have HB9 := Lib.hid (HB.out.next (Ext.trans (by repeat (first | exact Ext.refl _ | assumption | refine Ext.alloc ?_ _ | refine Ext.drew ?_ | refine Ext.drewN ?_ _ | (refine Ext.setCell ?_ (by simp <;> omega) _) | refine Ext.trans ?_ (by assumption))) hb)); clear b0 b1 b2 bl HB; have HB := HB9; clear HB9; obtain ⟨b0, b1, b2, bl⟩ := HB.out.blk.c3; have q9 := Lib.hid (HF.out.ext (Ext.trans (by repeat (first | exact Ext.refl _ | assumption | refine Ext.alloc ?_ _ | refine Ext.drew ?_ | refine Ext.drewN ?_ _ | (refine Ext.setCell ?_ (by simp <;> omega) _) | refine Ext.trans ?_ (by assumption))) hb)); clear HF; have HF := q9; clear q9; have q9 := Lib.hid (HX.out.ext (Ext.trans (by repeat (first | exact Ext.refl _ | assumption | refine Ext.alloc ?_ _ | refine Ext.drew ?_ | refine Ext.drewN ?_ _ | (refine Ext.setCell ?_ (by simp <;> omega) _) | refine Ext.trans ?_ (by assumption))) hb)); clear HX; have HX := q9; clear q9; have q9 := Lib.hid (HT.out.ext (Ext.trans (by repeat (first | exact Ext.refl _ | assumption | refine Ext.alloc ?_ _ | refine Ext.drew ?_ | refine Ext.drewN ?_ _ | (refine Ext.setCell ?_ (by simp <;> omega) _) | refine Ext.trans ?_ (by assumption))) hb)); clear HT; have HT := q9; clear q9; clear hb) | (go_at_call 15; refine Calls.mono (CC.out _ ?_ ?_) ?_; (exact HF.out.ext (by repeat (first | exact Ext.refl _ | assumption | refine Ext.alloc ?_ _ | refine Ext.drew ?_ | refine Ext.drewN ?_ _ | (refine Ext.setCell ?_ (by simp <;> omega) _) | refine Ext.trans ?_ (by assumption)))); (exact HX.out.ext (by repeat (first | exact Ext.refl _ | assumption | refine Ext.alloc ?_ _ | refine Ext.drew ?_ | refine Ext.drewN ?_ _ | (refine Ext.setCell ?_ (by simp <;> omega) _) | refine Ext.trans ?_ (by assumption)))); rintro e w1 ⟨rfl, hb⟩; have HB9 := Lib.hid (HB.out.next (Ext.trans (by repeat (first | exact Ext.refl _ | assumption | refine Ext.alloc ?_ _ | refine Ext.drew ?_ | refine Ext.drewN ?_ _ | (refine Ext.setCell ?_ (by simp <;> omega) _) | refine Ext.trans ?_ (by assumption))) hb)); clear b0 b1 b2 bl HB; have HB := HB9; clear HB9; obtain ⟨b0, b1, b2, bl⟩ := HB.out.blk.c3; have q9 := Lib.hid (HF.out.ext (Ext.trans (by repeat (first | exact Ext.refl _ | assumption | refine Ext.alloc ?_ _ | refine Ext.drew ?_ | refine Ext.drewN ?_ _ | (refine Ext.setCell ?_ (by simp <;> omega) _) | refine Ext.trans ?_ (by assumption))) hb)); clear HF; have HF := q9; clear q9; have q9 := Lib.hid (HX.out.ext (Ext.trans (by repeat (first | exact Ext.refl _ | assumption | refine Ext.alloc ?_ _ | refine Ext.drew ?_ | refine Ext.drewN ?_ _ | (refine Ext.setCell ?_ (by simp <;> omega) _) | refine Ext.trans ?_ (by assumption))) hb)); clear HX; have HX := q9; clear q9; have q9 := Lib.hid (HT.out.ext (Ext.trans (by repeat (first | exact Ext.refl _ | assumption | refine Ext.alloc ?_ _ | refine Ext.drew ?_ | refine Ext.drewN ?_ _ | (refine Ext.setCell ?_ (by simp <;> omega) _) | refine Ext.trans ?_ (by assumption))) hb)); clear HT; have HT := q9; clear q9; clear hb) | (go_at_call 16; refine Calls.mono (CB.out _ ?_ ?_) ?_; (exact HF.out.ext (by repeat (first | exact Ext.refl _ | assumption | refine Ext.alloc ?_ _ | refine Ext.drew ?_ | refine Ext.drewN ?_ _ | (refine Ext.setCell ?_ (by simp <;> omega) _) | refine Ext.trans ?_ (by assumption)))); (exact HX.out.ext (by repeat (first | exact Ext.refl _ | assumption | refine Ext.alloc ?_ _ | refine Ext.drew ?_ | refine Ext.drewN ?_ _ | (refine Ext.setCell ?_ (by simp <;> omega) _) | refine Ext.trans ?_ (by assumption)))); rintro e w1 ⟨Z, cz, rfl, hS, hb⟩; have HB9 := Lib.hid (HB.out.next (Ext.trans (by repeat (first | exact Ext.refl _ | assumption | refine Ext.alloc ?_ _ | refine Ext.drew ?_ | refine Ext.drewN ?_ _ | (refine Ext.setCell ?_ (by simp <;> omega) _) | refine Ext.trans ?_ (by assumption))) hb)); clear b0 b1 b2 bl HB; have HB := HB9; clear HB9; obtain ⟨b0, b1, b2, bl⟩ := HB.out.blk.c3; have q9 := Lib.hid (HF.out.ext (Ext.trans (by repeat (first | exact Ext.refl _ | assumption | refine Ext.alloc ?_ _ | refine Ext.drew ?_ | refine Ext.drewN ?_ _ | (refine Ext.setCell ?_ (by simp <;> omega) _) | refine Ext.trans ?_ (by assumption))) hb)); clear HF; have HF := q9; clear q9; have q9 := Lib.hid (HX.out.ext (Ext.trans (by repeat (first | exact Ext.refl _ | assumption | refine Ext.alloc ?_ _ | refine Ext.drew ?_ | refine Ext.drewN ?_ _ | (refine Ext.setCell ?_ (by simp <;> omega) _) | refine Ext.trans ?_ (by assumption))) hb)); clear HX; have HX := q9; clear q9; have q9 := Lib.hid (HT.out.ext (Ext.trans (by repeat (first | exact Ext.refl _ | assumption | refine Ext.alloc ?_ _ | refine Ext.drew ?_ | refine Ext.drewN ?_ _ | (refine Ext.setCell ?_ (by simp <;> omega) _) | refine Ext.trans ?_ (by assumption))) hb)); clear HT; have HT := q9; clear q9; have HZ := Lib.hid hS.ri; clear hS; clear hb))
    go_ret
    exact Ret.mk' rfl (HB.out.ext.trans (by repeat (first | exact Ext.refl _ | assumption | refine Ext.alloc ?_ _ | refine Ext.drew ?_ | refine Ext.drewN ?_ _ | (refine Ext.setCell ?_ (by simp <;> omega) _) | refine Ext.trans ?_ (by assumption))))
  case neg =>
    have hb : billR f ns total = (billL total ns, 0) := by unfold billR; rw [if_neg (by rw [hce]; simp), if_neg (by simp; omega), if_neg hs]
    rw [hb] at cB
    have hsb := sumTo_bd (fun k => ns.getD k 0) 1000000 ns.length bn
    have ha : 1 ≤ sumZ ns ns.length := by unfold sumZ at hs ⊢; omega
    have hnn : ∀ k, k < ns.length → 0 ≤ ns.getD k 0 := fun k hk => (bn k hk).1
    obtain ⟨s1, s2⟩ := billL_sum (total := total) (ns := ns) ha t1 hnn
    have HBN := Lib.hid bn
    have HBB : Hid (∀ k, k < ns.length → 0 ≤ (billL total ns).getD k 0 ∧ (billL total ns).getD k 0 ≤ total) := Lib.hid (fun k hk => ⟨s2 k hk, by
      have := sumTo_one (fun k => (billL total ns).getD k 0) ns.length s2 k hk
      unfold sumZ at s1; omega⟩)
    have HMO := Lib.hid (fun k i hk hi h => bill_mono (total := total) hn1 ha t1 k i hk hi h)
    have HNE := Lib.hid (fun j hj => bill_near (total := total) hn1 ha j hj)
    have HSU : Hid (sumZ (billL total ns) ns.length = total) := Lib.hid s1
    have hbl1 : (billL total ns).length ≤ ns.length := by rw [billL_len]; omega
    have hbl2 : ns.length ≤ (billL total ns).length := by rw [billL_len]; omega
    have hbl3 : (((billL total ns).length : Int) != (ns.length : Int)) = false := by rw [billL_len]; simp
    have HSB : Hid (∀ k, k ≤ ns.length → 0 ≤ sumZ ns k ∧ sumZ ns k ≤ 1000000000) := Lib.hid (fun k hk => by
      have := sumTo_bd (fun k => ns.getD k 0) 1000000 k (fun j hj => bn j (by omega)); unfold sumZ; omega)
    have HSL : Hid (∀ k, k ≤ ns.length → 0 ≤ sumZ (billL total ns) k ∧ sumZ (billL total ns) k ≤ 1000000000) := Lib.hid (fun k hk => by
      have := sumTo_bd (fun k => (billL total ns).getD k 0) 1000000 k (fun j hj => by have := HBB.out j (by omega); omega); unfold sumZ; omega)
    clear hce hck hcn l1 bn hb hs hsb hnn s1 s2 ha
    generalize billL total ns = bb at *
    obtain ⟨name, body, ss⟩ := f
    simp only [FT.val] at *
    have CF := Lib.hid cFew; have CC := Lib.hid cC; have CB := Lib.hid cB; clear cFew cC cB
    go_enter Tryd.func3, Tryd.ntmps3
    go_wp2_with (first | (go_at_call 13; refine Calls.mono (awake_any _ (HT.out.ext (by repeat (first | exact Ext.refl _ | assumption | refine Ext.alloc ?_ _ | refine Ext.drew ?_ | refine Ext.drewN ?_ _ | (refine Ext.setCell ?_ (by simp <;> omega) _) | refine Ext.trans ?_ (by assumption))))) ?_; rintro e w1 ⟨rfl, hb⟩; have HB := Lib.hid (Box.start (name := name) (body := body) (A := A) (n := ss.length) (c := c) w (Ext.trans (by repeat (first | exact Ext.refl _ | assumption | refine Ext.alloc ?_ _ | refine Ext.drew ?_ | refine Ext.drewN ?_ _ | (refine Ext.setCell ?_ (by simp <;> omega) _) | refine Ext.trans ?_ (by assumption))) hb)); obtain ⟨b0, b1, b2, bl⟩ := HB.out.blk.c3; have q9 := Lib.hid (HF.out.ext (Ext.trans (by repeat (first | exact Ext.refl _ | assumption | refine Ext.alloc ?_ _ | refine Ext.drew ?_ | refine Ext.drewN ?_ _ | (refine Ext.setCell ?_ (by simp <;> omega) _) | refine Ext.trans ?_ (by assumption))) hb)); clear HF; have HF := q9; clear q9; have q9 := Lib.hid (HX.out.ext (Ext.trans (by repeat (first | exact Ext.refl _ | assumption | refine Ext.alloc ?_ _ | refine Ext.drew ?_ | refine Ext.drewN ?_ _ | (refine Ext.setCell ?_ (by simp <;> omega) _) | refine Ext.trans ?_ (by assumption))) hb)); clear HX; have HX := q9; clear q9; have q9 := Lib.hid (HT.out.ext (Ext.trans (by repeat (first | exact Ext.refl _ | assumption | refine Ext.alloc ?_ _ | refine Ext.drew ?_ | refine Ext.drewN ?_ _ | (refine Ext.setCell ?_ (by simp <;> omega) _) | refine Ext.trans ?_ (by assumption))) hb)); clear HT; have HT := q9; clear q9; clear hb) | (go_at_call 14; refine Calls.mono (CF.out _ ?_) ?_; (exact HF.out.ext (by repeat (first | exact Ext.refl _ | assumption | refine Ext.alloc ?_ _ | refine Ext.drew ?_ | refine Ext.drewN ?_ _ | (refine Ext.setCell ?_ (by simp <;> omega) _) | refine Ext.trans ?_ (by assumption)))); rintro e w1 ⟨rfl, hb⟩; have HB9 := Lib.hid (HB.out.next (Ext.trans (by repeat (first | exact Ext.refl _ | assumption | refine Ext.alloc ?_ _ | refine Ext.drew ?_ | refine Ext.drewN ?_ _ | (refine Ext.setCell ?_ (by simp <;> omega) _) | refine Ext.trans ?_ (by assumption))) hb)); clear b0 b1 b2 bl HB; have HB := HB9; clear HB9; obtain ⟨b0, b1, b2, bl⟩ := HB.out.blk.c3; have q9 := Lib.hid (HF.out.ext (Ext.trans (by repeat (first | exact Ext.refl _ | assumption | refine Ext.alloc ?_ _ | refine Ext.drew ?_ | refine Ext.drewN ?_ _ | (refine Ext.setCell ?_ (by simp <;> omega) _) | refine Ext.trans ?_ (by assumption))) hb)); clear HF; have HF := q9; clear q9; have q9 := Lib.hid (HX.out.ext (Ext.trans (by repeat (first | exact Ext.refl _ | assumption | refine Ext.alloc ?_ _ | refine Ext.drew ?_ | refine Ext.drewN ?_ _ | (refine Ext.setCell ?_ (by simp <;> omega) _) | refine Ext.trans ?_ (by assumption))) hb)); clear HX; have HX := q9; clear q9; have q9 := Lib.hid (HT.out.ext (Ext.trans (by repeat (first | exact Ext.refl _ | assumption | refine Ext.alloc ?_ _ | refine Ext.drew ?_ | refine Ext.drewN ?_ _ | (refine Ext.setCell ?_ (by simp <;> omega) _) | refine Ext.trans ?_ (by assumption))) hb)); clear HT; have HT := q9; clear q9; clear hb) | (go_at_call 15; refine Calls.mono (CC.out _ ?_ ?_) ?_; (exact HF.out.ext (by repeat (first | exact Ext.refl _ | assumption | refine Ext.alloc ?_ _ | refine Ext.drew ?_ | refine Ext.drewN ?_ _ | (refine Ext.setCell ?_ (by simp <;> omega) _) | refine Ext.trans ?_ (by assumption)))); (exact HX.out.ext (by repeat (first | exact Ext.refl _ | assumption | refine Ext.alloc ?_ _ | refine Ext.drew ?_ | refine Ext.drewN ?_ _ | (refine Ext.setCell ?_ (by simp <;> omega) _) | refine Ext.trans ?_ (by assumption)))); rintro e w1 ⟨rfl, hb⟩; have HB9 := Lib.hid (HB.out.next (Ext.trans (by repeat (first | exact Ext.refl _ | assumption | refine Ext.alloc ?_ _ | refine Ext.drew ?_ | refine Ext.drewN ?_ _ | (refine Ext.setCell ?_ (by simp <;> omega) _) | refine Ext.trans ?_ (by assumption))) hb)); clear b0 b1 b2 bl HB; have HB := HB9; clear HB9; obtain ⟨b0, b1, b2, bl⟩ := HB.out.blk.c3; have q9 := Lib.hid (HF.out.ext (Ext.trans (by repeat (first | exact Ext.refl _ | assumption | refine Ext.alloc ?_ _ | refine Ext.drew ?_ | refine Ext.drewN ?_ _ | (refine Ext.setCell ?_ (by simp <;> omega) _) | refine Ext.trans ?_ (by assumption))) hb)); clear HF; have HF := q9; clear q9; have q9 := Lib.hid (HX.out.ext (Ext.trans (by repeat (first | exact Ext.refl _ | assumption | refine Ext.alloc ?_ _ | refine Ext.drew ?_ | refine Ext.drewN ?_ _ | (refine Ext.setCell ?_ (by simp <;> omega) _) | refine Ext.trans ?_ (by assumption))) hb)); clear HX; have HX := q9; clear q9; have q9 := Lib.hid (HT.out.ext (Ext.trans (by repeat (first | exact Ext.refl _ | assumption | refine Ext.alloc ?_ _ | refine Ext.drew ?_ | refine Ext.drewN ?_ _ | (refine Ext.setCell ?_ (by simp <;> omega) _) | refine Ext.trans ?_ (by assumption))) hb)); clear HT; have HT := q9; clear q9; clear hb) | (go_at_call 16; refine Calls.mono (CB.out _ ?_ ?_) ?_; (exact HF.out.ext (by repeat (first | exact Ext.refl _ | assumption | refine Ext.alloc ?_ _ | refine Ext.drew ?_ | refine Ext.drewN ?_ _ | (refine Ext.setCell ?_ (by simp <;> omega) _) | refine Ext.trans ?_ (by assumption)))); (exact HX.out.ext (by repeat (first | exact Ext.refl _ | assumption | refine Ext.alloc ?_ _ | refine Ext.drew ?_ | refine Ext.drewN ?_ _ | (refine Ext.setCell ?_ (by simp <;> omega) _) | refine Ext.trans ?_ (by assumption)))); rintro e w1 ⟨Z, cz, rfl, hS, hb⟩; have HB9 := Lib.hid (HB.out.next (Ext.trans (by repeat (first | exact Ext.refl _ | assumption | refine Ext.alloc ?_ _ | refine Ext.drew ?_ | refine Ext.drewN ?_ _ | (refine Ext.setCell ?_ (by simp <;> omega) _) | refine Ext.trans ?_ (by assumption))) hb)); clear b0 b1 b2 bl HB; have HB := HB9; clear HB9; obtain ⟨b0, b1, b2, bl⟩ := HB.out.blk.c3; have q9 := Lib.hid (HF.out.ext (Ext.trans (by repeat (first | exact Ext.refl _ | assumption | refine Ext.alloc ?_ _ | refine Ext.drew ?_ | refine Ext.drewN ?_ _ | (refine Ext.setCell ?_ (by simp <;> omega) _) | refine Ext.trans ?_ (by assumption))) hb)); clear HF; have HF := q9; clear q9; have q9 := Lib.hid (HX.out.ext (Ext.trans (by repeat (first | exact Ext.refl _ | assumption | refine Ext.alloc ?_ _ | refine Ext.drew ?_ | refine Ext.drewN ?_ _ | (refine Ext.setCell ?_ (by simp <;> omega) _) | refine Ext.trans ?_ (by assumption))) hb)); clear HX; have HX := q9; clear q9; have q9 := Lib.hid (HT.out.ext (Ext.trans (by repeat (first | exact Ext.refl _ | assumption | refine Ext.alloc ?_ _ | refine Ext.drew ?_ | refine Ext.drewN ?_ _ | (refine Ext.setCell ?_ (by simp <;> omega) _) | refine Ext.trans ?_ (by assumption))) hb)); clear HT; have HT := q9; clear q9; have HZ := Lib.hid hS.ri; clear hS; clear hb))
    go_loopw [9, 10, 11, 12] (fun s t i _ wr => ∃ k : Nat, k ≤ ns.length ∧ i = .int .i64 k ∧ s = .int .i64 (sumZ ns k) ∧ t = .int .i64 (sumZ bb k) ∧ Ext w1 wr) (fun _ _ i _ _ => ns.length - (intOf i).toNat)
    case atStart => exact ⟨0, Nat.zero_le _, rfl, rfl, rfl, (by repeat (first | exact Ext.refl _ | assumption | refine Ext.alloc ?_ _ | refine Ext.drew ?_ | refine Ext.drewN ?_ _ | (refine Ext.setCell ?_ (by simp <;> omega) _) | refine Ext.trans ?_ (by assumption)))⟩
    case round =>
      obtain ⟨k, hk, rfl, rfl, rfl, hxr⟩ := hrel
      obtain ⟨wo, hwo⟩ : ∃ wo : World, wo = wr := ⟨_, rfl⟩
      subst hwo
      have HXR := Lib.hid hxr
      by_cases hlt : k < ns.length
      case pos =>
        obtain ⟨b, off, rfl, hbw, hcell⟩ := (HX.out.ext hxr).2.2 (by omega)
        obtain ⟨b', off', rfl, hbw', hcell'⟩ := (HZ.out.ext hxr).2.2 (by omega)
        have c1 := hcell k hlt
        have c2 := hcell' k (by omega)
        have HK1 := Lib.hid c1; have HK2 := Lib.hid c2
        have HC1 := Lib.hid hcell
        have HC2 := Lib.hid hcell'
        obtain ⟨x1, x2⟩ := HBN.out k hlt
        obtain ⟨y1, y2⟩ := HBB.out k hlt
        obtain ⟨u1, u2⟩ := HSB.out k hk
        obtain ⟨v1, v2⟩ := HSL.out k hk
        have HS1 : Hid (sumZ ns (k + 1) = sumZ ns k + ns.getD k 0) := Lib.hid rfl
        have HS2 : Hid (sumZ bb (k + 1) = sumZ bb k + bb.getD k 0) := Lib.hid rfl
        have HMA := Lib.hid (fun q hq h => HMO.out q k hq hlt h)
        have HMB := Lib.hid (fun q hq h => HMO.out k q hlt hq h)
        have hki : (k : Int) < (ns.length : Int) := by omega
        have hkb : (k : Int) < (bb.length : Int) := by omega
        generalize ns.getD k 0 = x at *
        generalize bb.getD k 0 = y at *
        have i1 : IntKind.i64.wrap (sumZ ns k + x) = sumZ ns k + x := IntWalk.i64_in _ (by omega)
        have i2 : IntKind.i64.wrap (sumZ bb k + y) = sumZ bb k + y := IntWalk.i64_in _ (by omega)
        clear hcell hcell' hxr
        go_wp2_with (first | (go_at_call 17; refine Calls.mono (bWithin_yes _ _ _ _ ?_) ?_; (omega); rintro e w1 ⟨rfl, rfl⟩) | (go_at_call 17; refine Calls.mono (bWithin_no _ _ _ _ ?_) ?_; (omega); rintro e w1 ⟨rfl, rfl⟩))
        go_quiet (fail)
        clear i1 i2 c1 c2
        go_wp2
        go_loopw [12] (fun j wr => ∃ q : Nat, q ≤ k ∧ j = .int .i64 q ∧ Ext wo wr) (fun j _ => k - (intOf j).toNat)
        case atStart => exact ⟨0, Nat.zero_le _, rfl, (by repeat (first | exact Ext.refl _ | assumption | refine Ext.alloc ?_ _ | refine Ext.drew ?_ | refine Ext.drewN ?_ _ | (refine Ext.setCell ?_ (by simp <;> omega) _) | refine Ext.trans ?_ (by assumption)))⟩
        case round =>
          obtain ⟨q, hq, rfl, hxq⟩ := hrel
          have HXQ := Lib.hid hxq
          by_cases hqk : q < k
          case pos =>
            have c1 := (hxq.cell (p := ⟨b, off + k, none⟩) hbw).trans HK1.out
            have c2 := (hxq.cell (p := ⟨b', off' + k, none⟩) hbw').trans HK2.out
            have c3 := (hxq.cell (p := ⟨b, off + q, none⟩) hbw).trans (HC1.out q (by omega))
            have c4 := (hxq.cell (p := ⟨b', off' + q, none⟩) hbw').trans (HC2.out q (by omega))
            have hqi : (q : Int) < (ns.length : Int) := by omega
            have hqb : (q : Int) < (bb.length : Int) := by omega
            have hqq : (q : Int) < (k : Int) := by omega
            have m1 := HMA.out q (by omega)
            have m2 := HMB.out q (by omega)
            generalize ns.getD q 0 = x' at *
            generalize bb.getD q 0 = y' at *
            clear hxq
            rcases Int.lt_trichotomy x' x with h | h | h
            · have d1 : decide (x' < x) = true := decide_eq_true h
              have d2 : decide (y < y') = false := decide_eq_false (by have := m1 h; omega)
              have d3 : decide (x < x') = false := decide_eq_false (by omega)
              clear m1 m2 h
              go_wp2
              go_quiet (fail)
              go_wp2
              go_roundw
              case rel => exact ⟨q + 1, by omega, by go_num, HXQ.out.trans (by repeat (first | exact Ext.refl _ | assumption | refine Ext.alloc ?_ _ | refine Ext.drew ?_ | refine Ext.drewN ?_ _ | (refine Ext.setCell ?_ (by simp <;> omega) _) | refine Ext.trans ?_ (by assumption)))⟩
              case measure => simp [intOf]; omega
            · have d1 : decide (x' < x) = false := decide_eq_false (by omega)
              have d3 : decide (x < x') = false := decide_eq_false (by omega)
              clear m1 m2 h
              go_wp2
              go_quiet (fail)
              go_wp2
              go_roundw
              case rel => exact ⟨q + 1, by omega, by go_num, HXQ.out.trans (by repeat (first | exact Ext.refl _ | assumption | refine Ext.alloc ?_ _ | refine Ext.drew ?_ | refine Ext.drewN ?_ _ | (refine Ext.setCell ?_ (by simp <;> omega) _) | refine Ext.trans ?_ (by assumption)))⟩
              case measure => simp [intOf]; omega
            · have d1 : decide (x' < x) = false := decide_eq_false (by omega)
              have d3 : decide (x < x') = true := decide_eq_true h
              have d2 : decide (y' < y) = false := decide_eq_false (by have := m2 h; omega)
              clear m1 m2 h
              go_wp2
              go_quiet (fail)
              go_wp2
              go_roundw
              case rel => exact ⟨q + 1, by omega, by go_num, HXQ.out.trans (by repeat (first | exact Ext.refl _ | assumption | refine Ext.alloc ?_ _ | refine Ext.drew ?_ | refine Ext.drewN ?_ _ | (refine Ext.setCell ?_ (by simp <;> omega) _) | refine Ext.trans ?_ (by assumption)))⟩
              case measure => simp [intOf]; omega
          case neg =>
            obtain rfl : q = k := by omega
            clear hxq
            go_wp2
            go_roundw
            case rel => exact ⟨q + 1, by omega, by go_num, by rw [HS1.out], by rw [HS2.out], HXR.out.trans (HXQ.out.trans (by repeat (first | exact Ext.refl _ | assumption | refine Ext.alloc ?_ _ | refine Ext.drew ?_ | refine Ext.drewN ?_ _ | (refine Ext.setCell ?_ (by simp <;> omega) _) | refine Ext.trans ?_ (by assumption))))⟩
            case measure => simp [intOf]; omega
      case neg =>
        obtain rfl : k = ns.length := by omega
        have e9 : (sumZ bb ns.length == total) = true := by rw [HSU.out]; simp
        have e7 : ¬ ns.length < bb.length := by omega
        have e8 : ¬ (ns.length : Int) < (bb.length : Int) := by omega
        obtain ⟨u1, u2⟩ := HSB.out ns.length (Nat.le_refl _)
        generalize sumZ bb ns.length = sb at *
        generalize sumZ ns ns.length = al at *
        clear hxr
        go_wp2
        go_loopw [13] (fun j wr => ∃ q : Nat, q ≤ ns.length ∧ j = .int .i64 q ∧ Ext wo wr) (fun j _ => ns.length - (intOf j).toNat)
        case atStart => exact ⟨0, Nat.zero_le _, rfl, (by repeat (first | exact Ext.refl _ | assumption | refine Ext.alloc ?_ _ | refine Ext.drew ?_ | refine Ext.drewN ?_ _ | (refine Ext.setCell ?_ (by simp <;> omega) _) | refine Ext.trans ?_ (by assumption)))⟩
        case round =>
          obtain ⟨q, hq, rfl, hxq⟩ := hrel
          have HXQ := Lib.hid hxq
          by_cases hqk : q < ns.length
          case pos =>
            obtain ⟨b, off, rfl, hbw, hcell⟩ := (HX.out.ext (HXR.out.trans hxq)).2.2 (by omega)
            obtain ⟨b', off', rfl, hbw', hcell'⟩ := (HZ.out.ext (HXR.out.trans hxq)).2.2 (by omega)
            have c1 := hcell q hqk
            have c2 := hcell' q (by omega)
            obtain ⟨x1, x2⟩ := HBN.out q hqk
            obtain ⟨y1, y2⟩ := HBB.out q hqk
            have hne := HNE.out q hqk
            have hqi : (q : Int) < (ns.length : Int) := by omega
            have hqb : (q : Int) < (bb.length : Int) := by omega
            generalize ns.getD q 0 = x at *
            generalize bb.getD q 0 = y at *
            obtain ⟨p1, p2⟩ := mul_bd (show 0 ≤ y ∧ y ≤ 1000000 by omega) (show 0 ≤ al ∧ al ≤ 1000000000 by omega)
            obtain ⟨p3, p4⟩ := mul_bd (show 0 ≤ total ∧ total ≤ 1000000 by omega) (show 0 ≤ x ∧ x ≤ 1000000 by omega)
            have i1 : IntKind.i64.wrap (y * al) = y * al := IntWalk.i64_in _ (by omega)
            have i2 : IntKind.i64.wrap (total * x) = total * x := IntWalk.i64_in _ (by omega)
            obtain ⟨df, hdf⟩ : ∃ df : Int, df = y * al - total * x := ⟨_, rfl⟩
            have i3 : IntKind.i64.wrap (y * al - total * x) = df := by rw [hdf]; exact IntWalk.i64_in _ (by omega)
            have d1 : decide (al ≤ max (df) (-(df))) = false := decide_eq_false (by omega)
            have d2 : ¬ al ≤ max (df) (-(df)) := by omega
            have CS := Lib.hid (fun W => size_any df W (by omega))
            clear hdf
            generalize max df (-df) = sz at *
            clear hcell hcell' hxq hne
            go_wp2
            go_quiet ((go_at_call 18; exact Same.quiet (CS.out _)))
            clear i1 i2 i3
            go_wp2
            go_roundw
            case rel => exact ⟨q + 1, by omega, by go_num, HXQ.out.trans (by repeat (first | exact Ext.refl _ | assumption | refine Ext.alloc ?_ _ | refine Ext.drew ?_ | refine Ext.drewN ?_ _ | (refine Ext.setCell ?_ (by simp <;> omega) _) | refine Ext.trans ?_ (by assumption)))⟩
            case measure => simp [intOf]; omega
          case neg =>
            obtain rfl : q = ns.length := by omega
            clear hxq
            go_wp2
            go_ret
            exact Ret.mk' rfl (HB.out.ext.trans (HXR.out.trans (HXQ.out.trans (by repeat (first | exact Ext.refl _ | assumption | refine Ext.alloc ?_ _ | refine Ext.drew ?_ | refine Ext.drewN ?_ _ | (refine Ext.setCell ?_ (by simp <;> omega) _) | refine Ext.trans ?_ (by assumption))))))
end Go.Proofs.YtphkffndhifdkaaDoor.shares
