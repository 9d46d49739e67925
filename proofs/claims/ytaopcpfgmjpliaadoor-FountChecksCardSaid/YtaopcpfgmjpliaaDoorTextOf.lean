/-
  Walk: TextOf, what a list of sorts prints.
-/
import Derived.Test.YtaopcpfgmjpliaaDoorList
import Derived.Test.YtaopcpfgmjpliaaDoorBuilder
namespace Go.Proofs.YtaopcpfgmjpliaaDoor
open Go.RowKit

def sortAt (ss : List TS) (zs : List Int) (k : Nat) : TS := ss.getD (zs.getD k 0).toNat TS.zero
def blankAt (ss : List TS) (zs : List Int) : Nat → Bool
  | 0 => false
  | k + 1 => decide ((sortAt ss zs k).kind = 3)
def textTo (ss : List TS) (zs : List Int) : Nat → List UInt8
  | 0 => []
  | k + 1 => textTo ss zs k ++ (if (sortAt ss zs k).kind = 3 ∧ blankAt ss zs k = false then [32] else []) ++ (sortAt ss zs k).text.data.toList
def textR (f : FT) (zs : List Int) : List UInt8 × Int := if listChk f zs ≠ 0 then ([], listChk f zs) else (textTo f.sorts zs zs.length, 0)
def textV (f : FT) (zs : List Int) : Value := .tuple #[.string ⟨(textR f zs).1.toArray⟩, .int .i64 (textR f zs).2]
theorem text_size {f : FT} (h : (chk f).2 = 0) {k : Nat} (hk : k < f.sorts.length) : (f.sorts.getD k TS.zero).text.size ≤ 4 := by
  have h5 := (sort_ok h hk).2.2.2.2
  generalize f.sorts.getD k TS.zero = x at *
  unfold textErr at h5
  by_cases hp : printsB x.kind x.text = false
  · rw [if_pos hp] at h5; exact absurd h5 (by decide)
  · have hp' : printsB x.kind x.text = true := by simpa using hp
    unfold printsB at hp'
    simp only [Bool.and_eq_true, decide_eq_true_eq] at hp'
    have h2 := hp'.1.2
    unfold printHi at h2
    split at h2
    · omega
    · split at h2 <;> omega
theorem textTo_bd {ss : List TS} {zs : List Int} : ∀ n, (∀ k, k < n → (sortAt ss zs k).text.size ≤ 4) → (textTo ss zs n).length ≤ 5 * n
  | 0, _ => by simp [textTo]
  | n + 1, h => by
    have ih := textTo_bd n (fun k hk => h k (by omega))
    have h1 := h n (by omega)
    rw [textTo, List.length_append, List.length_append, Array.length_toList]
    have h2 : (sortAt ss zs n).text.data.size = (sortAt ss zs n).text.size := rfl
    split <;> simp <;> omega
theorem writeBlank_any (B b : Nat) (v : Value) (l : List UInt8) (w : World) (h : Bld w B b v l) (hlen : l.length ≤ 100000000) (hB : B ≤ w.heap.size) :
    Calls Tryd.prog 30 #[.pointer (some ⟨b, 0, none⟩), .int .u8 32] w (WrPost .nilIface B b v (l ++ [32]) w) := writeByte_any B b v l 32 w h hlen hB
set_option maxRecDepth 100000 in
set_option maxHeartbeats 4000000 in
theorem textOf_any (f : FT) (A : Option Addr) (c : Nat) (B : Option Addr) (d : Nat) (zs : List Int) (w : World) (hf : FR w A c f) (h : RI w B zs.length zs) :
    Calls Tryd.prog 16 #[f.val A c, .slice B zs.length d] w (Ret (textV f zs) w) := by
  have cL := fun W h1 h2 => checkList_any f A c B d zs W h1 h2
  have HV : Hid (textV f zs = .tuple #[.string ⟨(textR f zs).1.toArray⟩, .int .i64 (textR f zs).2]) := Lib.hid rfl
  have HF := Lib.hid hf; have HX := Lib.hid h; clear hf h
  by_cases hz : listChk f zs = 0
  case neg =>
    have HE : Hid (textR f zs = ([], listChk f zs)) := Lib.hid (by unfold textR; rw [if_pos hz])
    generalize textV f zs = V at *
    generalize textR f zs = r at *
    generalize listChk f zs = z at *
    have e0 : (z != 0) = true := by simpa using hz
    obtain ⟨name, body, ss⟩ := f
    simp only [FT.val] at *
    have CL := Lib.hid cL; clear cL hz
    go_enter Tryd.func16, Tryd.ntmps16
    go_wp2_with (first | (go_at_call 29; refine Calls.mono (CL.out _ ?_ ?_) ?_; (exact HF.out.ext (by repeat (first | exact Ext.refl _ | assumption | refine Ext.alloc ?_ _ | refine Ext.drew ?_ | refine Ext.drewN ?_ _ | (refine Ext.setCell ?_ (by simp <;> omega) _) | refine Ext.trans ?_ (by assumption)))); (exact HX.out.ext (by repeat (first | exact Ext.refl _ | assumption | refine Ext.alloc ?_ _ | refine Ext.drew ?_ | refine Ext.drewN ?_ _ | (refine Ext.setCell ?_ (by simp <;> omega) _) | refine Ext.trans ?_ (by assumption)))); rintro e w1 ⟨rfl, hb⟩))
    go_ret2
    exact Ret.mk' (by rw [HV.out, HE.out]; rfl) (by repeat (first | exact Ext.refl _ | assumption | refine Ext.alloc ?_ _ | refine Ext.drew ?_ | refine Ext.drewN ?_ _ | (refine Ext.setCell ?_ (by simp <;> omega) _) | refine Ext.trans ?_ (by assumption)))
  case pos =>
  obtain ⟨hck, hle⟩ := listChk_zero hz
  obtain ⟨hl, hb⟩ := listErr_zero hle
  have HIX := Lib.hid hb
  have HTX : Hid (∀ k, k < zs.length → (sortAt f.sorts zs k).text.size ≤ 4) := Lib.hid fun k hk => by
    have h1 := hb k hk
    exact text_size hck (k := (zs.getD k 0).toNat) (by omega)
  have HBD : Hid (∀ n, n ≤ zs.length → (textTo f.sorts zs n).length ≤ 5 * n) := Lib.hid fun n hn => textTo_bd n fun k hk => HTX.out k (by omega)
  have HE : Hid (textR f zs = (textTo f.sorts zs zs.length, 0)) := Lib.hid (by unfold textR; rw [if_neg (by simpa using hz)])
  rw [hz] at cL
  have hss := (chk_zero hck).2.2.1
  clear hz hck hle hb
  generalize textV f zs = V at *
  generalize textR f zs = r at *
  obtain ⟨name, body, ss⟩ := f
  simp only [FT.val] at *
  have CL := Lib.hid cL; clear cL
  go_enter Tryd.func16, Tryd.ntmps16
  go_wp2_with (first | (go_at_call 29; refine Calls.mono (CL.out _ ?_ ?_) ?_; (exact HF.out.ext (by repeat (first | exact Ext.refl _ | assumption | refine Ext.alloc ?_ _ | refine Ext.drew ?_ | refine Ext.drewN ?_ _ | (refine Ext.setCell ?_ (by simp <;> omega) _) | refine Ext.trans ?_ (by assumption)))); (exact HX.out.ext (by repeat (first | exact Ext.refl _ | assumption | refine Ext.alloc ?_ _ | refine Ext.drew ?_ | refine Ext.drewN ?_ _ | (refine Ext.setCell ?_ (by simp <;> omega) _) | refine Ext.trans ?_ (by assumption)))); rintro e w1 ⟨rfl, hb⟩; have HB1 := Lib.hid ((Blk.new _ _ _).ext hb); have HE1 := Lib.hid (show Ext w w1 from Ext.trans (by repeat (first | exact Ext.refl _ | assumption | refine Ext.alloc ?_ _ | refine Ext.drew ?_ | refine Ext.drewN ?_ _ | (refine Ext.setCell ?_ (by simp <;> omega) _) | refine Ext.trans ?_ (by assumption))) hb)))
  have hlt1 : w.heap.size < w1.heap.size := HB1.out.lt
  go_loopw [8, 10, 11, 20] (fun t _ _ i wr => ∃ (k : Nat) (v : Value), k ≤ zs.length ∧ i = .int .i64 k ∧ t = .bool (blankAt ss zs k) ∧ Ext w1 wr ∧ Bld wr (w1.heap.size + 1) w1.heap.size v (textTo ss zs k)) (fun _ _ _ i _ => zs.length - (intOf i).toNat)
  case atStart => exact ⟨0, .slice none 0 0, Nat.zero_le _, rfl, rfl, (by repeat (first | exact Ext.refl _ | assumption | refine Ext.alloc ?_ _ | refine Ext.drew ?_ | refine Ext.drewN ?_ _ | (refine Ext.setCell ?_ (by simp <;> omega) _) | refine Ext.trans ?_ (by assumption))), Bld.new _ _ (by omega)⟩
  case round =>
    obtain ⟨k, v, hk, rfl, rfl, hxr, hbl⟩ := hrel
    have HXR := Lib.hid hxr; have HBL := Lib.hid hbl
    obtain ⟨k0, k1, k2, kl⟩ := (HB1.out.ext hxr).c3
    have hbs : w1.heap.size < wr.heap.size := by obtain ⟨p, _, hb⟩ := hbl.blk; exact hb.lt
    have HLN := Lib.hid (HBD.out k hk)
    clear hxr hbl
    by_cases hlt : k < zs.length
    case pos =>
      obtain ⟨i1, i2⟩ := HIX.out k hlt
      obtain ⟨j, hj⟩ : ∃ j : Nat, zs.getD k 0 = (j : Int) := ⟨(zs.getD k 0).toNat, by omega⟩
      obtain ⟨b, off, rfl, hbw, hcell⟩ := (HX.out.ext (HE1.out.trans HXR.out)).2.2 (by omega)
      have c1 := hcell k hlt
      have htx := HTX.out k hlt
      have HN : Hid (textTo ss zs (k + 1) = textTo ss zs k ++ (if (sortAt ss zs k).kind = 3 ∧ blankAt ss zs k = false then [32] else []) ++ (sortAt ss zs k).text.data.toList) := Lib.hid rfl
      have HQ : Hid (blankAt ss zs (k + 1) = decide ((sortAt ss zs k).kind = 3)) := Lib.hid rfl
      have hsa : sortAt ss zs k = ss.getD j TS.zero := by unfold sortAt; rw [hj, Int.toNat_natCast]
      rw [hj] at c1 i1 i2
      rw [hsa] at htx HN HQ
      have hjn : j < ss.length := by omega
      obtain ⟨b', off', rfl, hbw', hcell'⟩ := (HF.out.rt.ext (HE1.out.trans HXR.out)).2.2 (by show 0 < ss.length; omega)
      obtain ⟨c2, c3, c4, c5⟩ := hcell' j hjn
      have hki : (k : Int) < (zs.length : Int) := by omega
      have hji : (j : Int) < (ss.length : Int) := by omega
      generalize ss.getD j TS.zero = x at *
      generalize blankAt ss zs k = bl at *
      generalize textTo ss zs k = l at *
      obtain ⟨xn, xt, xk, xw⟩ := x
      simp only at c2 c3 c4 c5 htx HN HQ
      have HTS : Hid (xt.size ≤ 4) := Lib.hid htx
      clear hcell hcell' hj hsa htx
      by_cases hx3 : xk = 3
      · subst hx3
        cases bl
        · have HN' : Hid (textTo ss zs (k + 1) = (l ++ [32]) ++ xt.data.toList) := Lib.hid (by rw [HN.out, if_pos ⟨rfl, rfl⟩])
          have HQ' : Hid (blankAt ss zs (k + 1) = true) := Lib.hid (by rw [HQ.out]; rfl)
          clear HN HQ
          go_wp2_with (first | (go_at_call 30; refine Calls.mono (writeBlank_any (w1.heap.size + 1) w1.heap.size v l _ ?_ ?_ ?_) ?_; (exact HBL.out.ext (by repeat (first | exact Ext.refl _ | assumption | refine Ext.alloc ?_ _ | refine Ext.drew ?_ | refine Ext.drewN ?_ _ | (refine Ext.setCell ?_ (by simp <;> omega) _) | refine Ext.trans ?_ (by assumption)))); (have := HLN.out; omega); (simp; omega); rintro e W2 ⟨rfl, v2, hb2, hbut⟩; have s2 := box_kept HBL.out (by decide) hbut; obtain ⟨q0, q1, q2, q3, ql⟩ := s2.c4; have HX2 := Lib.hid (But.extL (HXR.out.trans (by repeat (first | exact Ext.refl _ | assumption | refine Ext.alloc ?_ _ | refine Ext.drew ?_ | refine Ext.drewN ?_ _ | (refine Ext.setCell ?_ (by simp <;> omega) _) | refine Ext.trans ?_ (by assumption)))) (HBL.out.ext (by repeat (first | exact Ext.refl _ | assumption | refine Ext.alloc ?_ _ | refine Ext.drew ?_ | refine Ext.drewN ?_ _ | (refine Ext.setCell ?_ (by simp <;> omega) _) | refine Ext.trans ?_ (by assumption)))) (Nat.le_refl _) hbut); have HB2 := Lib.hid hb2; clear hb2 hbut) | (go_at_call 31; refine Calls.mono (writeString_any (w1.heap.size + 1) w1.heap.size v2 (l ++ [32]) xt _ HB2.out ?_ ?_) ?_; (have := HLN.out; have := HTS.out; simp; omega); (omega); rintro e W3 ⟨rfl, v3, hb3, hbut⟩; have HX3 := Lib.hid (But.extL HX2.out HB2.out (Nat.le_refl _) hbut); have HB3 := Lib.hid hb3; clear hb3 hbut))
          go_roundw
          case rel => exact ⟨k + 1, v3, by omega, by go_num, by rw [HQ'.out], HX3.out, by rw [HN'.out]; exact HB3.out⟩
          case measure => simp [intOf]; omega
        · have HN' : Hid (textTo ss zs (k + 1) = l ++ xt.data.toList) := Lib.hid (by rw [HN.out, if_neg (by simp), List.append_nil])
          have HQ' : Hid (blankAt ss zs (k + 1) = true) := Lib.hid (by rw [HQ.out]; rfl)
          clear HN HQ
          go_wp2_with (first | (go_at_call 31; refine Calls.mono (writeString_any (w1.heap.size + 1) w1.heap.size v l xt _ ?_ ?_ ?_) ?_; (exact HBL.out.ext (by repeat (first | exact Ext.refl _ | assumption | refine Ext.alloc ?_ _ | refine Ext.drew ?_ | refine Ext.drewN ?_ _ | (refine Ext.setCell ?_ (by simp <;> omega) _) | refine Ext.trans ?_ (by assumption)))); (have := HLN.out; have := HTS.out; omega); (simp; omega); rintro e W3 ⟨rfl, v3, hb3, hbut⟩; have HX3 := Lib.hid (But.extL (HXR.out.trans (by repeat (first | exact Ext.refl _ | assumption | refine Ext.alloc ?_ _ | refine Ext.drew ?_ | refine Ext.drewN ?_ _ | (refine Ext.setCell ?_ (by simp <;> omega) _) | refine Ext.trans ?_ (by assumption)))) (HBL.out.ext (by repeat (first | exact Ext.refl _ | assumption | refine Ext.alloc ?_ _ | refine Ext.drew ?_ | refine Ext.drewN ?_ _ | (refine Ext.setCell ?_ (by simp <;> omega) _) | refine Ext.trans ?_ (by assumption)))) (Nat.le_refl _) hbut); have HB3 := Lib.hid hb3; clear hb3 hbut))
          go_roundw
          case rel => exact ⟨k + 1, v3, by omega, by go_num, by rw [HQ'.out], HX3.out, by rw [HN'.out]; exact HB3.out⟩
          case measure => simp [intOf]; omega
      · have HN' : Hid (textTo ss zs (k + 1) = l ++ xt.data.toList) := Lib.hid (by rw [HN.out, if_neg (fun h => hx3 h.1), List.append_nil])
        have HQ' : Hid (blankAt ss zs (k + 1) = false) := Lib.hid (by rw [HQ.out]; exact decide_eq_false hx3)
        have e3 : (xk == 3) = false := by simpa using hx3
        clear HN HQ hx3
        go_wp2_with (first | (go_at_call 31; refine Calls.mono (writeString_any (w1.heap.size + 1) w1.heap.size v l xt _ ?_ ?_ ?_) ?_; (exact HBL.out.ext (by repeat (first | exact Ext.refl _ | assumption | refine Ext.alloc ?_ _ | refine Ext.drew ?_ | refine Ext.drewN ?_ _ | (refine Ext.setCell ?_ (by simp <;> omega) _) | refine Ext.trans ?_ (by assumption)))); (have := HLN.out; have := HTS.out; omega); (simp; omega); rintro e W3 ⟨rfl, v3, hb3, hbut⟩; have HX3 := Lib.hid (But.extL (HXR.out.trans (by repeat (first | exact Ext.refl _ | assumption | refine Ext.alloc ?_ _ | refine Ext.drew ?_ | refine Ext.drewN ?_ _ | (refine Ext.setCell ?_ (by simp <;> omega) _) | refine Ext.trans ?_ (by assumption)))) (HBL.out.ext (by repeat (first | exact Ext.refl _ | assumption | refine Ext.alloc ?_ _ | refine Ext.drew ?_ | refine Ext.drewN ?_ _ | (refine Ext.setCell ?_ (by simp <;> omega) _) | refine Ext.trans ?_ (by assumption)))) (Nat.le_refl _) hbut); have HB3 := Lib.hid hb3; clear hb3 hbut))
        go_roundw
        case rel => exact ⟨k + 1, v3, by omega, by go_num, by rw [HQ'.out], HX3.out, by rw [HN'.out]; exact HB3.out⟩
        case measure => simp [intOf]; omega
    case neg =>
      obtain rfl : k = zs.length := by omega
      go_wp2_with (first | (go_at_call 32; refine Calls.mono (string_any (w1.heap.size + 1) w1.heap.size v _ _ HBL.out (by omega)) ?_; rintro e W3 ⟨rfl, hb3⟩; have HB3 := Lib.hid hb3; clear hb3))
      go_ret2
      exact Ret.mk' (by rw [HV.out, HE.out]; rfl) (HE1.out.trans (Below.ext (Below.trans HXR.out HB3.out)))
end Go.Proofs.YtaopcpfgmjpliaaDoor
