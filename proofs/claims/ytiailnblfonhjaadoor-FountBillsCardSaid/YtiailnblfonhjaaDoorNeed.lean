/-
  Walks: NeedOf; the reference's error of a list, its width and its need.
-/
import Derived.Test.YtiailnblfonhjaaDoorTextOf
import Derived.Test.YtiailnblfonhjaaDoorBox
import Derived.Deep.RegionHeld3
import Derived.StillTailTactics
namespace Go.Proofs.YtiailnblfonhjaaDoor
open Go.RowKit

/-- How often each of n sorts stands among the first of a list. -/
def needTo (n : Nat) (zs : List Int) : Nat → List Int
  | 0 => List.replicate n 0
  | k + 1 => (needTo n zs k).set (zs.getD k 0).toNat ((needTo n zs k).getD (zs.getD k 0).toNat 0 + 1)
theorem needTo_len (n : Nat) (zs : List Int) : ∀ k, (needTo n zs k).length = n
  | 0 => by simp [needTo]
  | k + 1 => by rw [needTo, List.length_set, needTo_len n zs k]
theorem needTo_bd (n : Nat) (zs : List Int) : ∀ k j, j < n → 0 ≤ (needTo n zs k).getD j 0 ∧ (needTo n zs k).getD j 0 ≤ k
  | 0, j, hj => by
    rw [needTo, List.getD_eq_getElem?_getD, List.getElem?_replicate, if_pos hj]; simp
  | k + 1, j, hj => by
    have ih := needTo_bd n zs k j hj
    rw [needTo]
    by_cases h : (zs.getD k 0).toNat < n
    · rw [getD_set (by rw [needTo_len]; exact h)]
      split
      · have := needTo_bd n zs k _ h; omega
      · omega
    · rw [List.set_eq_of_length_le (by rw [needTo_len]; omega)]; omega
def needR (f : FT) (zs : List Int) : List Int × Int := if listChk f zs ≠ 0 then ([], listChk f zs) else (needTo f.sorts.length zs zs.length, 0)
theorem needSL {w w0 : World} {base g n : Nat} {zs : List Int} (h : Own w base (.slice (some ⟨g, 0, none⟩) n n) zs) (hl : zs.length = n) (hn : n ≤ 1000000) (hb : w0.heap.size ≤ base) : SL w w0.heap.size (some ⟨g, 0, none⟩) n zs := by
  subst hl
  obtain ⟨A, c', he, hc, hr⟩ := h.form (by omega)
  obtain ⟨e1, _, e3⟩ := Value.slice.inj he
  subst e1 e3
  exact SL.mono ⟨h, hr, hc⟩ hb
set_option maxRecDepth 100000 in
set_option maxHeartbeats 4000000 in
theorem needOf_any (f : FT) (A : Option Addr) (c : Nat) (B : Option Addr) (d : Nat) (zs : List Int) (w : World) (hf : FR w A c f) (h : RI w B zs.length zs) :
    Calls Tryd.prog 23 #[f.val A c, .slice B zs.length d] w (RetSE (needR f zs).1 (needR f zs).2 w) := by
  have cL := fun W h1 h2 => checkList_any f A c B d zs W h1 h2
  have HF := Lib.hid hf; have HX := Lib.hid h; clear hf h
  by_cases hz : listChk f zs = 0
  case neg =>
    have HE : Hid (needR f zs = ([], listChk f zs)) := Lib.hid (by unfold needR; rw [if_pos hz])
    generalize needR f zs = r at *
    generalize listChk f zs = z at *
    have e0 : (z != 0) = true := by simpa using hz
    obtain ⟨name, body, ss⟩ := f
    simp only [FT.val] at *
    have CL := Lib.hid cL; clear cL hz
    go_enter Tryd.func23, Tryd.ntmps23
    go_wp2_with (first | (go_at_call 66; refine Calls.mono (CL.out _ ?_ ?_) ?_; (exact HF.out.ext (by repeat (first | exact Ext.refl _ | assumption | refine Ext.alloc ?_ _ | refine Ext.drew ?_ | refine Ext.drewN ?_ _ | (refine Ext.setCell ?_ (by simp <;> omega) _) | refine Ext.trans ?_ (by assumption)))); (exact HX.out.ext (by repeat (first | exact Ext.refl _ | assumption | refine Ext.alloc ?_ _ | refine Ext.drew ?_ | refine Ext.drewN ?_ _ | (refine Ext.setCell ?_ (by simp <;> omega) _) | refine Ext.trans ?_ (by assumption)))); rintro e w1 ⟨rfl, hb⟩))
    go_ret2
    rw [HE.out]
    exact ⟨none, 0, rfl, SL.nil _ _, (by repeat (first | exact Ext.refl _ | assumption | refine Ext.alloc ?_ _ | refine Ext.drew ?_ | refine Ext.drewN ?_ _ | (refine Ext.setCell ?_ (by simp <;> omega) _) | refine Ext.trans ?_ (by assumption)))⟩
  case pos =>
  obtain ⟨hck, hle⟩ := listChk_zero hz
  obtain ⟨hl, hb⟩ := listErr_zero hle
  have HIX := Lib.hid hb
  have HE : Hid (needR f zs = (needTo f.sorts.length zs zs.length, 0)) := Lib.hid (by unfold needR; rw [if_neg (by simpa using hz)])
  rw [hz] at cL
  have hss := (chk_zero hck).2.2.1
  clear hz hck hle hb
  generalize needR f zs = r at *
  obtain ⟨name, body, ss⟩ := f
  simp only [FT.val] at *
  have CL := Lib.hid cL; clear cL
  go_enter Tryd.func23, Tryd.ntmps23
  go_wp2_with (first | (go_at_call 66; refine Calls.mono (CL.out _ ?_ ?_) ?_; (exact HF.out.ext (by repeat (first | exact Ext.refl _ | assumption | refine Ext.alloc ?_ _ | refine Ext.drew ?_ | refine Ext.drewN ?_ _ | (refine Ext.setCell ?_ (by simp <;> omega) _) | refine Ext.trans ?_ (by assumption)))); (exact HX.out.ext (by repeat (first | exact Ext.refl _ | assumption | refine Ext.alloc ?_ _ | refine Ext.drew ?_ | refine Ext.drewN ?_ _ | (refine Ext.setCell ?_ (by simp <;> omega) _) | refine Ext.trans ?_ (by assumption)))); rintro e w1 ⟨rfl, hb⟩; have HB1 := Lib.hid ((Blk.new _ _ _).ext hb); have HE1 := Lib.hid (show Ext w w1 from Ext.trans (by repeat (first | exact Ext.refl _ | assumption | refine Ext.alloc ?_ _ | refine Ext.drew ?_ | refine Ext.drewN ?_ _ | (refine Ext.setCell ?_ (by simp <;> omega) _) | refine Ext.trans ?_ (by assumption))) hb); obtain ⟨k0, k1, k2, kl⟩ := HB1.out.c3; clear hb) | (at_make; refine list_makeI rfl (.tmp 18) (.tmp 18) rfl ss.length rfl rfl (by omega) ?_; intro W2 hS hx hlt; have HS2 := Lib.hid hS.own; have HE2 := Lib.hid (HE1.out.trans (Ext.trans (by repeat (first | exact Ext.refl _ | assumption | refine Ext.alloc ?_ _ | refine Ext.drew ?_ | refine Ext.drewN ?_ _ | (refine Ext.setCell ?_ (by simp <;> omega) _) | refine Ext.trans ?_ (by assumption))) hx)); clear hS hx))
  have hgb : w.heap.size ≤ w1.heap.size := HE1.out.size
  go_loopw [9, 22] (fun _ i wr => ∃ k : Nat, k ≤ zs.length ∧ i = .int .i64 k ∧ Own wr w1.heap.size (.slice (some ⟨w1.heap.size, 0, none⟩) ss.length ss.length) (needTo ss.length zs k) ∧ Ext w wr) (fun _ i _ => zs.length - (intOf i).toNat)
  case atStart => exact ⟨0, Nat.zero_le _, rfl, by have := HS2.out; rw [List.length_replicate] at this; exact this, HE2.out⟩
  case round =>
    obtain ⟨k, hk, rfl, hown, hxr⟩ := hrel
    have HO := Lib.hid hown; have HXR := Lib.hid hxr
    by_cases hlt : k < zs.length
    case pos =>
      obtain ⟨i1, i2⟩ := HIX.out k hlt
      obtain ⟨j, hj⟩ : ∃ j : Nat, zs.getD k 0 = (j : Int) := ⟨(zs.getD k 0).toNat, by omega⟩
      obtain ⟨b, off, rfl, hbw, hcell⟩ := (HX.out.ext hxr).2.2 (by omega)
      have c1 := hcell k hlt
      have HN : Hid (needTo ss.length zs (k + 1) = (needTo ss.length zs k).set j ((needTo ss.length zs k).getD j 0 + 1)) := Lib.hid (by rw [needTo, hj, Int.toNat_natCast])
      rw [hj] at c1 i1 i2
      have hjn : j < ss.length := by omega
      have hlen : j < (needTo ss.length zs k).length := by rw [needTo_len]; exact hjn
      have c2 := (hown.at rfl j hlen).1
      have c3 := (hown.at rfl j hlen).2.1
      have hnb := needTo_bd ss.length zs k j hjn
      have hki : (k : Int) < (zs.length : Int) := by omega
      have hji : (j : Int) < (ss.length : Int) := by omega
      clear hcell hj hlen hown hxr
      generalize (needTo ss.length zs k).getD j 0 = y at *
      obtain ⟨y1, y2⟩ := hnb
      go_wp2
      go_roundw
      case rel => exact ⟨k + 1, by omega, by go_num, by rw [HN.out]; exact HO.out.set j (y + 1), HXR.out.setCell hgb _⟩
      case measure => simp [intOf]; omega
    case neg =>
      obtain rfl : k = zs.length := by omega
      clear hown hxr
      go_wp2
      go_ret2
      rw [HE.out]
      exact ⟨some ⟨w1.heap.size, 0, none⟩, ss.length, by simp only [needTo_len]; rfl, needSL HO.out (needTo_len _ _ _) (by omega) hgb, HXR.out⟩

set_option maxRecDepth 100000 in
set_option maxHeartbeats 2000000 in
theorem rListErr_any (f : FT) (A : Option Addr) (c : Nat) (B : Option Addr) (d : Nat) (zs : List Int) (w : World) (hf : FR w A c f) (h : RI w B zs.length zs) :
    Calls Tryd.prog 25 #[f.val A c, .slice B zs.length d] w (Ret (.int .i64 (listErr f.sorts.length zs)) w) := by
  have hbig := h.big
  have hsb := hf.rt.big
  have HX := Lib.hid h; clear h hf
  obtain ⟨name, body, ss⟩ := f
  simp only [FT.val] at *
  have HL : Hid (listErr ss.length zs = if 10000 < zs.length then 8 else if (idxOf (badIdx ss.length) zs zs.length).isSome = true then 6 else 0) := Lib.hid rfl
  generalize listErr ss.length zs = r at *
  by_cases hl : zs.length ≤ 10000
  case neg =>
    have i1 : (10000 : Int) < (zs.length : Int) := by omega
    have HR : Hid (r = 8) := Lib.hid (by rw [HL.out, if_pos (by omega)])
    clear HL hl
    go_enter Tryd.func25, Tryd.ntmps25
    go_wp2
    go_ret
    exact Ret.mk' (by rw [HR.out]; rfl) (by repeat (first | exact Ext.refl _ | assumption | refine Ext.alloc ?_ _ | refine Ext.drew ?_ | refine Ext.drewN ?_ _ | (refine Ext.setCell ?_ (by simp <;> omega) _) | refine Ext.trans ?_ (by assumption)))
  case pos =>
  have i1 : ¬ (10000 : Int) < (zs.length : Int) := by omega
  have HR1 : Hid (∀ k, k < zs.length → badIdx ss.length (zs.getD k 0) = true → r = 6) := Lib.hid fun k hk hb => by
    rw [HL.out, if_neg (by omega), if_pos ((idxOf_isSome _ _ _).2 ⟨k, hk, hb⟩)]
  have HR2 : Hid ((∀ k, k < zs.length → badIdx ss.length (zs.getD k 0) = false) → r = 0) := Lib.hid fun hg => by
    rw [HL.out, if_neg (by omega), if_neg]
    intro hs
    obtain ⟨k, hk, hb⟩ := (idxOf_isSome _ _ _).1 hs
    rw [hg k hk] at hb; cases hb
  clear HL
  go_enter Tryd.func25, Tryd.ntmps25
  go_wp2
  go_loopw [5] (fun i wr => ∃ k : Nat, k ≤ zs.length ∧ i = .int .i64 k ∧ Hid (∀ j, j < k → badIdx ss.length (zs.getD j 0) = false) ∧ Ext (w.alloc (.cells #[.string name, .int .i64 body, .slice A ss.length c] 24)) wr) (fun i _ => zs.length - (intOf i).toNat)
  case atStart => exact ⟨0, Nat.zero_le _, rfl, Lib.hid (fun j hj => absurd hj (by omega)), Ext.refl _⟩
  case round =>
    obtain ⟨k, hk, rfl, hall, hx⟩ := hrel
    have HXR := Lib.hid hx
    have e2 := boxed hx 2 _ rfl
    have hsz := hx.lt_of_alloc
    by_cases hlt : k < zs.length
    · obtain ⟨b, off, rfl, hbw, hcell⟩ := (HX.out.ext hx.of_alloc).2.2 (by omega)
      have c1 := hcell k hlt
      have hki : (k : Int) < (zs.length : Int) := by omega
      have HK1 := Lib.hid (HR1.out k hlt)
      have HK2 : Hid (badIdx ss.length (zs.getD k 0) = false → ∀ j, j < k + 1 → badIdx ss.length (zs.getD j 0) = false) := Lib.hid (fun h j hj => by
        by_cases e : j < k
        · exact hall.out j e
        · obtain rfl : j = k := by omega
          exact h)
      generalize zs.getD k 0 = z at *
      clear hcell hx
      by_cases hz : 0 ≤ z ∧ z ≤ (ss.length : Int) - 1
      · have HB := Lib.hid (HK2.out (badIdx_false.2 (by omega)))
        have j1 : IntKind.i64.wrap ((ss.length : Int) - 1) = (ss.length : Int) - 1 := IntWalk.i64_in _ (by omega)
        go_wp2
        go_quiet ((go_at_call 17; exact Same.quiet (bWithin_yes _ _ _ _ (by omega))))
        clear j1
        go_wp2
        go_roundw
        case rel => exact ⟨k + 1, by omega, by go_num, HB, HXR.out.trans (by repeat (first | exact Ext.refl _ | assumption | refine Ext.alloc ?_ _ | refine Ext.drew ?_ | refine Ext.drewN ?_ _ | (refine Ext.setCell ?_ (by simp <;> omega) _) | refine Ext.trans ?_ (by assumption)))⟩
        case measure => simp [intOf]; omega
      · have HB : Hid (r = 6) := Lib.hid (HK1.out (by rw [← Bool.not_eq_false, badIdx_false]; omega))
        clear HK1 HK2
        have j1 : IntKind.i64.wrap ((ss.length : Int) - 1) = (ss.length : Int) - 1 := IntWalk.i64_in _ (by omega)
        go_wp2
        go_quiet ((go_at_call 17; exact Same.quiet (bWithin_no _ _ _ _ (by omega))))
        clear j1
        go_wp2
        go_ret
        exact Ret.mk' (by rw [HB.out]; rfl) (HXR.out.of_alloc.trans (by repeat (first | exact Ext.refl _ | assumption | refine Ext.alloc ?_ _ | refine Ext.drew ?_ | refine Ext.drewN ?_ _ | (refine Ext.setCell ?_ (by simp <;> omega) _) | refine Ext.trans ?_ (by assumption))))
    · obtain rfl : k = zs.length := by omega
      clear hx
      go_wp2
      go_ret
      exact Ret.mk' (by rw [HR2.out hall.out]; rfl) HXR.out.of_alloc
/-- A list of sorts of a fount. -/
structure Good (n : Nat) (zs : List Int) : Prop where
  few : zs.length ≤ 10000
  ix : ∀ k, k < zs.length → 0 ≤ zs.getD k 0 ∧ zs.getD k 0 < n
theorem Good.of {n : Nat} {zs : List Int} (h : listErr n zs = 0) : Good n zs := ⟨(listErr_zero h).1, (listErr_zero h).2⟩
set_option maxRecDepth 100000 in
set_option maxHeartbeats 4000000 in
theorem rNeedOf_any (f : FT) (A : Option Addr) (c : Nat) (B : Option Addr) (d : Nat) (zs : List Int) (w : World) (h : RI w B zs.length zs) (hg : Good f.sorts.length zs) (hss : f.sorts.length ≤ 120) :
    Calls Tryd.prog 29 #[f.val A c, .slice B zs.length d] w (RetS (needTo f.sorts.length zs zs.length) w) := by
  have HX := Lib.hid h; clear h
  have HIX := Lib.hid hg.ix; have hl := hg.few; clear hg
  obtain ⟨name, body, ss⟩ := f
  simp only [FT.val] at *
  go_enter Tryd.func29, Tryd.ntmps29
  go_wp2_with (at_make; refine list_makeI rfl (.tmp 9) (.tmp 9) rfl ss.length rfl rfl (by omega) ?_; intro W2 hS hx hlt; have HS2 := Lib.hid hS.own; have HE2 := Lib.hid (show Ext w W2 from Ext.trans (by repeat (first | exact Ext.refl _ | assumption | refine Ext.alloc ?_ _ | refine Ext.drew ?_ | refine Ext.drewN ?_ _ | (refine Ext.setCell ?_ (by simp <;> omega) _) | refine Ext.trans ?_ (by assumption))) hx); clear hS hx)
  rw [World.size_alloc] at hlt
  go_loopw [6] (fun i wr => ∃ k : Nat, k ≤ zs.length ∧ i = .int .i64 k ∧ Own wr (w.heap.size + 1) (.slice (some ⟨w.heap.size + 1, 0, none⟩) ss.length ss.length) (needTo ss.length zs k) ∧ Ext w wr) (fun i _ => zs.length - (intOf i).toNat)
  case atStart => exact ⟨0, Nat.zero_le _, rfl, by have := HS2.out; rw [List.length_replicate, World.size_alloc] at this; exact this, HE2.out⟩
  case round =>
    obtain ⟨k, hk, rfl, hown, hxr⟩ := hrel
    have HO := Lib.hid hown; have HXR := Lib.hid hxr
    by_cases hlt : k < zs.length
    case pos =>
      obtain ⟨i1, i2⟩ := HIX.out k hlt
      obtain ⟨j, hj⟩ : ∃ j : Nat, zs.getD k 0 = (j : Int) := ⟨(zs.getD k 0).toNat, by omega⟩
      obtain ⟨b, off, rfl, hbw, hcell⟩ := (HX.out.ext hxr).2.2 (by omega)
      have c1 := hcell k hlt
      have HN : Hid (needTo ss.length zs (k + 1) = (needTo ss.length zs k).set j ((needTo ss.length zs k).getD j 0 + 1)) := Lib.hid (by rw [needTo, hj, Int.toNat_natCast])
      rw [hj] at c1 i1 i2
      have hjn : j < ss.length := by omega
      have hlen : j < (needTo ss.length zs k).length := by rw [needTo_len]; exact hjn
      have c2 := (hown.at rfl j hlen).1
      have c3 := (hown.at rfl j hlen).2.1
      have hnb := needTo_bd ss.length zs k j hjn
      have hki : (k : Int) < (zs.length : Int) := by omega
      have hji : (j : Int) < (ss.length : Int) := by omega
      clear hcell hj hlen hown hxr
      generalize (needTo ss.length zs k).getD j 0 = y at *
      obtain ⟨y1, y2⟩ := hnb
      have j1 : IntKind.i64.wrap (y + 1) = y + 1 := IntWalk.i64_in _ (by omega)
      have HOD := Lib.hid (HO.out.ext ((Ext.refl wr).drew))
      go_wp2
      go_still_tail 14, (by kernel_rfl)
      change wpList _ _ _ _ _ wr.drew
      clear j1
      go_wp2
      go_roundw
      case rel => exact ⟨k + 1, by omega, by go_num, by rw [HN.out]; exact HOD.out.set j (y + 1), (HXR.out.drew).setCell (by simp) _⟩
      case measure => simp [intOf]; omega
    case neg =>
      obtain rfl : k = zs.length := by omega
      clear hown hxr
      go_wp2
      go_ret
      exact ⟨some ⟨w.heap.size + 1, 0, none⟩, ss.length, by simp only [needTo_len]; rfl, needSL HO.out (needTo_len _ _ _) (by omega) (by omega), HXR.out⟩
set_option maxRecDepth 100000 in
set_option maxHeartbeats 4000000 in
theorem rWidthOf_any (f : FT) (A : Option Addr) (c : Nat) (B : Option Addr) (d : Nat) (zs : List Int) (w : World) (hf : FR w A c f) (h : RI w B zs.length zs) (hg : Good f.sorts.length zs) (hck : (chk f).2 = 0) :
    Calls Tryd.prog 26 #[f.val A c, .slice B zs.length d] w (Ret (.int .i64 (widthTo f.sorts zs zs.length)) w) := by
  have HIX := Lib.hid hg.ix; have hl := hg.few; clear hg
  have HWD : Hid (∀ k, k < zs.length → 0 ≤ (f.sorts.getD (zs.getD k 0).toNat TS.zero).width ∧ (f.sorts.getD (zs.getD k 0).toNat TS.zero).width ≤ 100000) := Lib.hid fun k hk => by
    have h1 := HIX.out k hk
    have := (sort_ok hck (k := (zs.getD k 0).toNat) (by omega)).2.1
    omega
  have HBD : Hid (∀ n, n ≤ zs.length → 0 ≤ widthTo f.sorts zs n ∧ widthTo f.sorts zs n ≤ 1000000000) := Lib.hid fun n hn => by
    have := sumTo_bd (fun k => (f.sorts.getD (zs.getD k 0).toNat TS.zero).width) 100000 n (fun k hk => HWD.out k (by omega))
    unfold widthTo; omega
  have hss := (chk_zero hck).2.2.1
  have HF := Lib.hid hf; have HX := Lib.hid h; clear hf h hck
  obtain ⟨name, body, ss⟩ := f
  simp only [FT.val] at *
  go_enter Tryd.func26, Tryd.ntmps26
  go_wp2
  go_loopw [5, 6] (fun t i wr => ∃ k : Nat, k ≤ zs.length ∧ i = .int .i64 k ∧ t = .int .i64 (widthTo ss zs k) ∧ Box w name body A ss.length c wr) (fun _ i _ => zs.length - (intOf i).toNat)
  case atStart => exact ⟨0, Nat.zero_le _, rfl, rfl, ⟨(by repeat (first | exact Ext.refl _ | assumption | refine Ext.alloc ?_ _ | refine Ext.drew ?_ | refine Ext.drewN ?_ _ | (refine Ext.setCell ?_ (by simp <;> omega) _) | refine Ext.trans ?_ (by assumption))), Blk.new _ _ _⟩⟩
  case round =>
    obtain ⟨k, hk, rfl, rfl, hbox⟩ := hrel
    have HBX := Lib.hid hbox
    obtain ⟨e0, e1, e2, el⟩ := hbox.blk.c3
    have hbd := HBD.out k hk
    by_cases hlt : k < zs.length
    · obtain ⟨i1, i2⟩ := HIX.out k hlt
      obtain ⟨j, hj⟩ : ∃ j : Nat, zs.getD k 0 = (j : Int) := ⟨(zs.getD k 0).toNat, by omega⟩
      obtain ⟨b, off, rfl, hbw, hcell⟩ := (HX.out.ext hbox.ext).2.2 (by omega)
      have c1 := hcell k hlt
      have hwd := HWD.out k hlt
      have HN : Hid (widthTo ss zs (k + 1) = widthTo ss zs k + (ss.getD (zs.getD k 0).toNat TS.zero).width) := Lib.hid rfl
      rw [hj] at c1 i1 i2 hwd HN
      rw [Int.toNat_natCast] at hwd HN
      have hjn : j < ss.length := by omega
      obtain ⟨b', off', rfl, hbw', hcell'⟩ := (HF.out.rt.ext hbox.ext).2.2 (by show 0 < ss.length; omega)
      have c2 := (hcell' j hjn).2.2.2
      have hki : (k : Int) < (zs.length : Int) := by omega
      have hji : (j : Int) < (ss.length : Int) := by omega
      generalize (ss.getD j TS.zero).width = y at *
      generalize widthTo ss zs k = x at *
      obtain ⟨hx1, hx2⟩ := hbd
      obtain ⟨hy1, hy2⟩ := hwd
      clear hcell hcell' hj hbox
      have j1 : IntKind.i64.wrap (x + y) = x + y := IntWalk.i64_in _ (by omega)
      go_wp2
      go_quiet (fail)
      clear j1
      go_wp2
      go_roundw
      case rel => exact ⟨k + 1, by omega, by go_num, by rw [HN.out], HBX.out.next (by repeat (first | exact Ext.refl _ | assumption | refine Ext.alloc ?_ _ | refine Ext.drew ?_ | refine Ext.drewN ?_ _ | (refine Ext.setCell ?_ (by simp <;> omega) _) | refine Ext.trans ?_ (by assumption)))⟩
      case measure => simp [intOf]; omega
    · obtain rfl : k = zs.length := by omega
      clear hbox
      go_wp2
      go_ret
      exact Ret.mk' rfl HBX.out.ext
end Go.Proofs.YtiailnblfonhjaaDoor
