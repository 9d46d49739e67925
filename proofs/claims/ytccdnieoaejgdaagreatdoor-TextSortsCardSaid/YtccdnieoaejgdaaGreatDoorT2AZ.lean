/-
  Walks: a word is set in some way (setting, SortsOf).
-/
import Derived.Test.YtccdnieoaejgdaaGreatDoorT2AX
import Derived.Test.YtccdnieoaejgdaaGreatDoorT2AY
set_option linter.unusedVariables false
set_option linter.unusedSimpArgs false
set_option linter.unusedSectionVars false
namespace Go.Proofs.YtccdnieoaejgdaaGreatDoor
open Go.RowKit Go.Lib
attribute [local go_sem] stateAt vu known List.map_cons List.map_nil Option.getD_some

theorem KI.looks1 {w : World} {b n : Nat} {f : List UInt8 → Option (List Int)} (h : KI w b n f) (s : ByteArray) (hs : s.size ≤ maxLen) :
    ∃ A c, (∀ W, Ext w W → (Instr.lookup 134 (.map (some b)) (.string s) false).run Tryz.prog W = .ok (.slice A ((f s.data.toList).getD []).length c) W) ∧ SL w 0 A c ((f s.data.toList).getD []) := by
  obtain ⟨F, hk, hf⟩ := h.ex
  have h3 := hf s.data.toList
  cases hfl : f s.data.toList with
  | none =>
    rw [hfl] at h3
    simp only at h3
    refine ⟨none, 0, fun W hW => ?_, SL.nil _ _⟩
    have h1 := (hk.ext hW).look1 s hs
    rw [h3] at h1
    exact h1
  | some zs =>
    rw [hfl] at h3
    obtain ⟨A, c, h4, h5⟩ := h3
    refine ⟨A, c, fun W hW => ?_, h5⟩
    have h1 := (hk.ext hW).look1 s hs
    rw [h4] at h1
    exact h1
/-- A word set in some way: the sorts, and the error. -/
def setV (f : FT) (r : RU) (s : ByteArray) (o : List Int → Option (List Int)) : List Int := if wordE f r s ≠ 0 then [] else (o (barLook r s.data.toList)).getD []
def setE (f : FT) (r : RU) (s : ByteArray) (o : List Int → Option (List Int)) : Int := if wordE f r s ≠ 0 then wordE f r s else if (o (barLook r s.data.toList)).isSome = true then 0 else 6
set_option maxRecDepth 100000 in
set_option maxHeartbeats 4000000 in
theorem settingS_any (f : FT) (A : Option Addr) (c : Nat) (r : RU) (a : RuA) (s : ByteArray) (w : World) (hf : FR w A c f) (hr : RuR w a r) (hs : ShortU r) (hz : s.size ≤ 1000000) (o : List Int → Option (List Int))
    (CS : wordE f r s = 0 → ∀ W B d bz, FR W A c f → RI W B bz.length bz → Calls Tryz.prog 73 #[f.val A c, .string s, .slice B bz.length d] W (RetSB (o bz) W)) :
    Calls Tryz.prog 72 #[f.val A c, r.val a, .string s, .func (.func 73) #[] #[]] w (RetSE (setV f r s o) (setE f r s o) w) := by
  have HF := Lib.hid hf
  have HR := Lib.hid hr
  have CO := Lib.hid fun W (h : FR W A c f) (k : RuR W a r) => openWord_any f A c r a s W h k hs hz
  have HV : Hid (setV f r s o = if wordE f r s ≠ 0 then [] else (o (barLook r s.data.toList)).getD []) := Lib.hid rfl
  have HE : Hid (setE f r s o = if wordE f r s ≠ 0 then wordE f r s else if (o (barLook r s.data.toList)).isSome = true then 0 else 6) := Lib.hid rfl
  clear hr hs hf
  unfold RU.val FT.val at *
  generalize wordE f r s = z at *
  by_cases h0 : z = 0
  case neg =>
    have e0 : (z != 0) = true := by simpa using h0
    rw [if_pos h0] at HE HV
    have H1 := Lib.hid h0
    clear h0 CS
    go_enter Tryz.func72, Tryz.ntmps72
    go_wp2_with (first | (go_at_call 87; refine Calls.mono (CO.out _ (HF.out.ext (by repeat (first | exact Ext.refl _ | assumption | refine Ext.alloc ?_ _ | refine Ext.drew ?_ | refine Ext.drewN ?_ _ | (refine Ext.setCell ?_ (by simp <;> omega) _) | refine Ext.trans ?_ (by assumption)))) (HR.out.ext (by repeat (first | exact Ext.refl _ | assumption | refine Ext.alloc ?_ _ | refine Ext.drew ?_ | refine Ext.drewN ?_ _ | (refine Ext.setCell ?_ (by simp <;> omega) _) | refine Ext.trans ?_ (by assumption))))) ?_; rintro e w1 (⟨hn, _⟩ | ⟨_, nm, bd, X, n9, d9, p9, rfl, hx⟩); (exact absurd hn H1.out); have HX1 := Lib.hid (Ext.trans (a := w) (by repeat (first | exact Ext.refl _ | assumption | refine Ext.alloc ?_ _ | refine Ext.drew ?_ | refine Ext.drewN ?_ _ | (refine Ext.setCell ?_ (by simp <;> omega) _) | refine Ext.trans ?_ (by assumption))) hx); clear hx))
    go_ret2
    rw [HV.out, HE.out]
    exact ⟨none, 0, rfl, SL.nil _ _, HX1.out.alloc _⟩
  case pos =>
    subst h0
    rw [if_neg (by decide)] at HE HV
    have H1 := Lib.hid (rfl : (0 : Int) = 0)
    have CS1 := Lib.hid (CS rfl)
    clear CS
    go_enter Tryz.func72, Tryz.ntmps72
    go_upto_region 4 with (first | (go_at_call 87; refine Calls.mono (CO.out _ (HF.out.ext (by repeat (first | exact Ext.refl _ | assumption | refine Ext.alloc ?_ _ | refine Ext.drew ?_ | refine Ext.drewN ?_ _ | (refine Ext.setCell ?_ (by simp <;> omega) _) | refine Ext.trans ?_ (by assumption)))) (HR.out.ext (by repeat (first | exact Ext.refl _ | assumption | refine Ext.alloc ?_ _ | refine Ext.drew ?_ | refine Ext.drewN ?_ _ | (refine Ext.setCell ?_ (by simp <;> omega) _) | refine Ext.trans ?_ (by assumption))))) ?_; rintro e w1 (⟨_, rb, PA, pc, me, mb, ne, nb, rfl, hrl, hx⟩ | ⟨hn, _⟩); rotate_left 1; (exact absurd H1.out hn); have HRL := Lib.hid hrl; have HX1 := Lib.hid (Ext.trans (a := w) (by repeat (first | exact Ext.refl _ | assumption | refine Ext.alloc ?_ _ | refine Ext.drew ?_ | refine Ext.drewN ?_ _ | (refine Ext.setCell ?_ (by simp <;> omega) _) | refine Ext.trans ?_ (by assumption))) hx); clear hrl hx))
    obtain ⟨wz, hwz⟩ : ∃ wz, w1.alloc (.cells #[.string f.name, .int .i64 f.body, .slice A f.sorts.length c] 126) = wz := ⟨_, rfl⟩
    have hxz : Ext w1 wz := by rw [← hwz]; exact (by repeat (first | exact Ext.refl _ | assumption | refine Ext.alloc ?_ _ | refine Ext.drew ?_ | refine Ext.drewN ?_ _ | (refine Ext.setCell ?_ (by simp <;> omega) _) | refine Ext.trans ?_ (by assumption)))
    have HPZ : Hid (Blk wz w1.heap.size 126 #[.string f.name, .int .i64 f.body, .slice A f.sorts.length c]) := Lib.hid (by rw [← hwz]; exact Blk.new _ _ _)
    have HRZ := Lib.hid (HRL.out.ext hxz)
    have HFZ := Lib.hid (HF.out.ext (HX1.out.trans hxz))
    have HXZ := Lib.hid (HX1.out.trans hxz)
    obtain ⟨A5, c5, hlk, hs5⟩ := HRZ.out.bar.looks1 s (by unfold maxLen; omega)
    change (∀ W, Ext wz W → (Instr.lookup 134 (.map (some mb)) (.string s) false).run Tryz.prog W = .ok (.slice A5 (barLook r s.data.toList).length c5) W) at hlk
    change SL wz 0 A5 c5 (barLook r s.data.toList) at hs5
    generalize barLook r s.data.toList = bz at *
    have HLK := Lib.hid hlk; have HSZ := Lib.hid hs5
    have CSX := Lib.hid fun W h1 h2 => CS1.out W A5 c5 bz h1 h2
    generalize hov : o bz = ov at *
    rw [hwz]
    clear hwz hxz hlk hs5 HRL HX1 hov
    refine wp_region_rel [some (.func (.func 73) #[] #[]), some (.agg #[.string f.name, .int .i64 f.body, .slice A f.sorts.length c]), some (.string s), some (.pointer (some ⟨rb, 0, none⟩)), some (.pointer (some ⟨rb, 0, none⟩)), some (.pointer (some ⟨rb, 7, none⟩)), some (.map (some mb)), some (.string s), some (.slice A5 bz.length c5), none, none, none, some (.bool ov.isSome), none, some (.bool ov.isSome)] (fun k v W => (k = 9 → (fun (v : Value) (W : World) => ∃ A2 c2, v = .tuple #[.slice A2 (ov.getD []).length c2, .bool ov.isSome] ∧ SL W w.heap.size A2 c2 (ov.getD [])) v W) ∧ (k = 10 → (fun (v : Value) (W : World) => ∃ A2 c2, v = .tuple #[.slice A2 (ov.getD []).length c2, .bool ov.isSome] ∧ SL W w.heap.size A2 c2 (ov.getD [])) v W) ∧ (k = 11 → (fun (v : Value) (W : World) => ∃ A2 c2, v = .slice A2 (ov.getD []).length c2 ∧ SL W w.heap.size A2 c2 (ov.getD [])) v W) ∧ (k = 13 → (fun (v : Value) (W : World) => ∃ A2 c2, v = .slice A2 (ov.getD []).length c2 ∧ SL W w.heap.size A2 c2 (ov.getD [])) v W)) wz (by kernel_rfl) (by kernel_rfl) rfl (fun k v W W' h hx => ⟨fun e => let ⟨A2, c2, h1, h2⟩ := (h.1 e); ⟨A2, c2, h1, h2.ext hx⟩, fun e => let ⟨A2, c2, h1, h2⟩ := (h.2.1 e); ⟨A2, c2, h1, h2.ext hx⟩, fun e => let ⟨A2, c2, h1, h2⟩ := (h.2.2.1 e); ⟨A2, c2, h1, h2.ext hx⟩, fun e => let ⟨A2, c2, h1, h2⟩ := (h.2.2.2 e); ⟨A2, c2, h1, h2.ext hx⟩⟩) (Ext.refl _) ⟨?_, ?_, ?_, ?_, ?_, ?_, ?_, ?_, ?_, ?_, ?_, ?_, ?_, ?_, ?_, trivial⟩ ?_
    · intro U W hx hR
      clear hR
      refine StepZ.go rfl ?_
      go_simp
      exact ⟨(by repeat (first | exact Ext.refl _ | assumption | refine Ext.alloc ?_ _ | refine Ext.drew ?_ | refine Ext.drewN ?_ _ | (refine Ext.setCell ?_ (by simp <;> omega) _) | refine Ext.trans ?_ (by assumption))), gives_k (by kernel_rfl)⟩
    · intro U W hx hR
      clear hR
      have hP := HPZ.out.ext hx; have y1 := hP.cell 0 _ rfl; have y2 := hP.cell 1 _ rfl; have y3 := hP.cell 2 _ rfl; have l1 := hP.lt; clear hP
      refine StepZ.go rfl ?_
      go_simp
      exact ⟨(by repeat (first | exact Ext.refl _ | assumption | refine Ext.alloc ?_ _ | refine Ext.drew ?_ | refine Ext.drewN ?_ _ | (refine Ext.setCell ?_ (by simp <;> omega) _) | refine Ext.trans ?_ (by assumption))), gives_k (by kernel_rfl)⟩
    · intro U W hx hR
      clear hR
      refine StepZ.go rfl ?_
      go_simp
      exact ⟨(by repeat (first | exact Ext.refl _ | assumption | refine Ext.alloc ?_ _ | refine Ext.drew ?_ | refine Ext.drewN ?_ _ | (refine Ext.setCell ?_ (by simp <;> omega) _) | refine Ext.trans ?_ (by assumption))), gives_k (by kernel_rfl)⟩
    · intro U W hx hR
      clear hR
      refine StepZ.go rfl ?_
      go_simp
      exact ⟨(by repeat (first | exact Ext.refl _ | assumption | refine Ext.alloc ?_ _ | refine Ext.drew ?_ | refine Ext.drewN ?_ _ | (refine Ext.setCell ?_ (by simp <;> omega) _) | refine Ext.trans ?_ (by assumption))), gives_k (by kernel_rfl)⟩
    · intro U W hx hR
      clear hR
      refine StepZ.go rfl ?_
      go_simp
      exact ⟨(by repeat (first | exact Ext.refl _ | assumption | refine Ext.alloc ?_ _ | refine Ext.drew ?_ | refine Ext.drewN ?_ _ | (refine Ext.setCell ?_ (by simp <;> omega) _) | refine Ext.trans ?_ (by assumption))), gives_k (by kernel_rfl)⟩
    · intro U W hx hR
      clear hR
      refine StepZ.go rfl ?_
      go_simp
      exact ⟨(by repeat (first | exact Ext.refl _ | assumption | refine Ext.alloc ?_ _ | refine Ext.drew ?_ | refine Ext.drewN ?_ _ | (refine Ext.setCell ?_ (by simp <;> omega) _) | refine Ext.trans ?_ (by assumption))), gives_k (by kernel_rfl)⟩
    · intro U W hx hR
      clear hR
      have hP := (HRZ.out.ext hx).blk; have y1 := hP.cell 7 _ rfl; have l1 := hP.lt; clear hP
      refine StepZ.go rfl ?_
      go_simp
      exact ⟨(by repeat (first | exact Ext.refl _ | assumption | refine Ext.alloc ?_ _ | refine Ext.drew ?_ | refine Ext.drewN ?_ _ | (refine Ext.setCell ?_ (by simp <;> omega) _) | refine Ext.trans ?_ (by assumption))), gives_k (by kernel_rfl)⟩
    · intro U W hx hR
      clear hR
      refine StepZ.go rfl ?_
      go_simp
      exact ⟨(by repeat (first | exact Ext.refl _ | assumption | refine Ext.alloc ?_ _ | refine Ext.drew ?_ | refine Ext.drewN ?_ _ | (refine Ext.setCell ?_ (by simp <;> omega) _) | refine Ext.trans ?_ (by assumption))), gives_k (by kernel_rfl)⟩
    · intro U W hx hR
      clear hR
      have hlk := HLK.out W hx
      refine StepZ.go rfl ?_
      go_simp
      exact ⟨(by repeat (first | exact Ext.refl _ | assumption | refine Ext.alloc ?_ _ | refine Ext.drew ?_ | refine Ext.drewN ?_ _ | (refine Ext.setCell ?_ (by simp <;> omega) _) | refine Ext.trans ?_ (by assumption))), gives_k (by kernel_rfl)⟩
    · intro U W hx hR
      clear hR
      refine StepZ.go rfl ?_
      go_simp
      refine Calls.mono (CSX.out _ (HFZ.out.ext hx) (HSZ.out.ext hx).ri) ?_; rintro e w4 ⟨A2, c2, rfl, hs2, hb⟩; exact ⟨_, rfl, hb, gives_e (by kernel_rfl) ⟨fun _ => ⟨A2, c2, rfl, hs2.mono (by have h8 := HXZ.out.size; have h9 := hx.size; omega)⟩, fun e => absurd e (by decide), fun e => absurd e (by decide), fun e => absurd e (by decide)⟩⟩
    · intro U W hx hR
      have r9 := (hR 9 (by decide) (by kernel_rfl)).1 rfl; obtain ⟨A9, c9, e9_, s9⟩ := r9
      clear hR
      (try rw [e9_])
      refine StepZ.go rfl ?_
      go_simp
      exact ⟨Ext.refl _, gives_e (by kernel_rfl) ⟨fun e => absurd e (by decide), fun _ => ⟨A9, c9, rfl, s9⟩, fun e => absurd e (by decide), fun e => absurd e (by decide)⟩⟩
    · intro U W hx hR
      have r10 := (hR 10 (by decide) (by kernel_rfl)).2.1 rfl; obtain ⟨A10, c10, e10_, s10⟩ := r10
      clear hR
      (try rw [e10_])
      refine StepZ.go rfl ?_
      go_simp
      exact ⟨Ext.refl _, gives_e (by kernel_rfl) ⟨fun e => absurd e (by decide), fun e => absurd e (by decide), fun _ => ⟨A10, c10, rfl, s10⟩, fun e => absurd e (by decide)⟩⟩
    · intro U W hx hR
      have r10 := (hR 10 (by decide) (by kernel_rfl)).2.1 rfl; obtain ⟨A10, c10, e10_, s10⟩ := r10
      clear hR
      (try rw [e10_])
      refine StepZ.go rfl ?_
      go_simp
      exact ⟨(by repeat (first | exact Ext.refl _ | assumption | refine Ext.alloc ?_ _ | refine Ext.drew ?_ | refine Ext.drewN ?_ _ | (refine Ext.setCell ?_ (by simp <;> omega) _) | refine Ext.trans ?_ (by assumption))), gives_k (by kernel_rfl)⟩
    · intro U W hx hR
      have r11 := (hR 11 (by decide) (by kernel_rfl)).2.2.1 rfl; obtain ⟨A11, c11, e11_, s11⟩ := r11
      clear hR
      (try rw [e11_])
      refine StepZ.go rfl ?_
      go_simp
      exact ⟨Ext.refl _, gives_e (by kernel_rfl) ⟨fun e => absurd e (by decide), fun e => absurd e (by decide), fun e => absurd e (by decide), fun _ => ⟨A11, c11, rfl, s11⟩⟩⟩
    · intro U W hx hR
      clear hR
      refine StepZ.go rfl ?_
      go_simp
      exact ⟨(by repeat (first | exact Ext.refl _ | assumption | refine Ext.alloc ?_ _ | refine Ext.drew ?_ | refine Ext.drewN ?_ _ | (refine Ext.setCell ?_ (by simp <;> omega) _) | refine Ext.trans ?_ (by assumption))), gives_k (by kernel_rfl)⟩
    · intro U W hx hR
      have r9 := (hR 9 (by decide) (by kernel_rfl)).1 rfl; obtain ⟨A9, c9, e9_, s9⟩ := r9
      have r10 := (hR 10 (by decide) (by kernel_rfl)).2.1 rfl; obtain ⟨A10, c10, e10_, s10⟩ := r10
      have r11 := (hR 11 (by decide) (by kernel_rfl)).2.2.1 rfl; obtain ⟨A11, c11, e11_, s11⟩ := r11
      have r13 := (hR 13 (by decide) (by kernel_rfl)).2.2.2 rfl; obtain ⟨A13, c13, e13_, s13⟩ := r13
      clear hR
      simp only [putAll, vu, Act.put, List.setIfInBounds_toArray, List.set_cons_zero, List.set_cons_succ]
      (try simp only [e9_])
      (try simp only [e10_])
      (try simp only [e11_])
      (try simp only [e13_])
      have HS13 := Lib.hid s13
      clear s9 s10 s11 s13
      cases ov with
      | none =>
        simp only [Option.getD_none, List.length_nil, Option.isSome_none] at *
        go_wp2
        go_ret2
        rw [HV.out, HE.out]
        exact ⟨none, 0, rfl, SL.nil _ _, HXZ.out.trans hx⟩
      | some zs =>
        simp only [Option.getD_some, Option.isSome_some] at *
        go_wp2
        go_ret2
        rw [HV.out, HE.out]
        exact ⟨A13, c13, rfl, HS13.out, HXZ.out.trans hx⟩
set_option maxRecDepth 100000 in
set_option maxHeartbeats 4000000 in
theorem settingF_any (f : FT) (A : Option Addr) (c : Nat) (r : RU) (a : RuA) (s : ByteArray) (w : World) (hf : FR w A c f) (hr : RuR w a r) (hs : ShortU r) (hz : s.size ≤ 1000000) (o : List Int → Option (List Int))
    (CS : wordE f r s = 0 → ∀ W B d bz, FR W A c f → RI W B bz.length bz → Calls Tryz.prog 97 #[f.val A c, .string s, .slice B bz.length d] W (RetSB (o bz) W)) :
    Calls Tryz.prog 72 #[f.val A c, r.val a, .string s, .func (.func 97) #[] #[]] w (RetSE (setV f r s o) (setE f r s o) w) := by
  have HF := Lib.hid hf
  have HR := Lib.hid hr
  have CO := Lib.hid fun W (h : FR W A c f) (k : RuR W a r) => openWord_any f A c r a s W h k hs hz
  have HV : Hid (setV f r s o = if wordE f r s ≠ 0 then [] else (o (barLook r s.data.toList)).getD []) := Lib.hid rfl
  have HE : Hid (setE f r s o = if wordE f r s ≠ 0 then wordE f r s else if (o (barLook r s.data.toList)).isSome = true then 0 else 6) := Lib.hid rfl
  clear hr hs hf
  unfold RU.val FT.val at *
  generalize wordE f r s = z at *
  by_cases h0 : z = 0
  case neg =>
    have e0 : (z != 0) = true := by simpa using h0
    rw [if_pos h0] at HE HV
    have H1 := Lib.hid h0
    clear h0 CS
    go_enter Tryz.func72, Tryz.ntmps72
    go_wp2_with (first | (go_at_call 87; refine Calls.mono (CO.out _ (HF.out.ext (by repeat (first | exact Ext.refl _ | assumption | refine Ext.alloc ?_ _ | refine Ext.drew ?_ | refine Ext.drewN ?_ _ | (refine Ext.setCell ?_ (by simp <;> omega) _) | refine Ext.trans ?_ (by assumption)))) (HR.out.ext (by repeat (first | exact Ext.refl _ | assumption | refine Ext.alloc ?_ _ | refine Ext.drew ?_ | refine Ext.drewN ?_ _ | (refine Ext.setCell ?_ (by simp <;> omega) _) | refine Ext.trans ?_ (by assumption))))) ?_; rintro e w1 (⟨hn, _⟩ | ⟨_, nm, bd, X, n9, d9, p9, rfl, hx⟩); (exact absurd hn H1.out); have HX1 := Lib.hid (Ext.trans (a := w) (by repeat (first | exact Ext.refl _ | assumption | refine Ext.alloc ?_ _ | refine Ext.drew ?_ | refine Ext.drewN ?_ _ | (refine Ext.setCell ?_ (by simp <;> omega) _) | refine Ext.trans ?_ (by assumption))) hx); clear hx))
    go_ret2
    rw [HV.out, HE.out]
    exact ⟨none, 0, rfl, SL.nil _ _, HX1.out.alloc _⟩
  case pos =>
    subst h0
    rw [if_neg (by decide)] at HE HV
    have H1 := Lib.hid (rfl : (0 : Int) = 0)
    have CS1 := Lib.hid (CS rfl)
    clear CS
    go_enter Tryz.func72, Tryz.ntmps72
    go_upto_region 4 with (first | (go_at_call 87; refine Calls.mono (CO.out _ (HF.out.ext (by repeat (first | exact Ext.refl _ | assumption | refine Ext.alloc ?_ _ | refine Ext.drew ?_ | refine Ext.drewN ?_ _ | (refine Ext.setCell ?_ (by simp <;> omega) _) | refine Ext.trans ?_ (by assumption)))) (HR.out.ext (by repeat (first | exact Ext.refl _ | assumption | refine Ext.alloc ?_ _ | refine Ext.drew ?_ | refine Ext.drewN ?_ _ | (refine Ext.setCell ?_ (by simp <;> omega) _) | refine Ext.trans ?_ (by assumption))))) ?_; rintro e w1 (⟨_, rb, PA, pc, me, mb, ne, nb, rfl, hrl, hx⟩ | ⟨hn, _⟩); rotate_left 1; (exact absurd H1.out hn); have HRL := Lib.hid hrl; have HX1 := Lib.hid (Ext.trans (a := w) (by repeat (first | exact Ext.refl _ | assumption | refine Ext.alloc ?_ _ | refine Ext.drew ?_ | refine Ext.drewN ?_ _ | (refine Ext.setCell ?_ (by simp <;> omega) _) | refine Ext.trans ?_ (by assumption))) hx); clear hrl hx))
    obtain ⟨wz, hwz⟩ : ∃ wz, w1.alloc (.cells #[.string f.name, .int .i64 f.body, .slice A f.sorts.length c] 126) = wz := ⟨_, rfl⟩
    have hxz : Ext w1 wz := by rw [← hwz]; exact (by repeat (first | exact Ext.refl _ | assumption | refine Ext.alloc ?_ _ | refine Ext.drew ?_ | refine Ext.drewN ?_ _ | (refine Ext.setCell ?_ (by simp <;> omega) _) | refine Ext.trans ?_ (by assumption)))
    have HPZ : Hid (Blk wz w1.heap.size 126 #[.string f.name, .int .i64 f.body, .slice A f.sorts.length c]) := Lib.hid (by rw [← hwz]; exact Blk.new _ _ _)
    have HRZ := Lib.hid (HRL.out.ext hxz)
    have HFZ := Lib.hid (HF.out.ext (HX1.out.trans hxz))
    have HXZ := Lib.hid (HX1.out.trans hxz)
    obtain ⟨A5, c5, hlk, hs5⟩ := HRZ.out.bar.looks1 s (by unfold maxLen; omega)
    change (∀ W, Ext wz W → (Instr.lookup 134 (.map (some mb)) (.string s) false).run Tryz.prog W = .ok (.slice A5 (barLook r s.data.toList).length c5) W) at hlk
    change SL wz 0 A5 c5 (barLook r s.data.toList) at hs5
    generalize barLook r s.data.toList = bz at *
    have HLK := Lib.hid hlk; have HSZ := Lib.hid hs5
    have CSX := Lib.hid fun W h1 h2 => CS1.out W A5 c5 bz h1 h2
    generalize hov : o bz = ov at *
    rw [hwz]
    clear hwz hxz hlk hs5 HRL HX1 hov
    refine wp_region_rel [some (.func (.func 97) #[] #[]), some (.agg #[.string f.name, .int .i64 f.body, .slice A f.sorts.length c]), some (.string s), some (.pointer (some ⟨rb, 0, none⟩)), some (.pointer (some ⟨rb, 0, none⟩)), some (.pointer (some ⟨rb, 7, none⟩)), some (.map (some mb)), some (.string s), some (.slice A5 bz.length c5), none, none, none, some (.bool ov.isSome), none, some (.bool ov.isSome)] (fun k v W => (k = 9 → (fun (v : Value) (W : World) => ∃ A2 c2, v = .tuple #[.slice A2 (ov.getD []).length c2, .bool ov.isSome] ∧ SL W w.heap.size A2 c2 (ov.getD [])) v W) ∧ (k = 10 → (fun (v : Value) (W : World) => ∃ A2 c2, v = .tuple #[.slice A2 (ov.getD []).length c2, .bool ov.isSome] ∧ SL W w.heap.size A2 c2 (ov.getD [])) v W) ∧ (k = 11 → (fun (v : Value) (W : World) => ∃ A2 c2, v = .slice A2 (ov.getD []).length c2 ∧ SL W w.heap.size A2 c2 (ov.getD [])) v W) ∧ (k = 13 → (fun (v : Value) (W : World) => ∃ A2 c2, v = .slice A2 (ov.getD []).length c2 ∧ SL W w.heap.size A2 c2 (ov.getD [])) v W)) wz (by kernel_rfl) (by kernel_rfl) rfl (fun k v W W' h hx => ⟨fun e => let ⟨A2, c2, h1, h2⟩ := (h.1 e); ⟨A2, c2, h1, h2.ext hx⟩, fun e => let ⟨A2, c2, h1, h2⟩ := (h.2.1 e); ⟨A2, c2, h1, h2.ext hx⟩, fun e => let ⟨A2, c2, h1, h2⟩ := (h.2.2.1 e); ⟨A2, c2, h1, h2.ext hx⟩, fun e => let ⟨A2, c2, h1, h2⟩ := (h.2.2.2 e); ⟨A2, c2, h1, h2.ext hx⟩⟩) (Ext.refl _) ⟨?_, ?_, ?_, ?_, ?_, ?_, ?_, ?_, ?_, ?_, ?_, ?_, ?_, ?_, ?_, trivial⟩ ?_
    · intro U W hx hR
      clear hR
      refine StepZ.go rfl ?_
      go_simp
      exact ⟨(by repeat (first | exact Ext.refl _ | assumption | refine Ext.alloc ?_ _ | refine Ext.drew ?_ | refine Ext.drewN ?_ _ | (refine Ext.setCell ?_ (by simp <;> omega) _) | refine Ext.trans ?_ (by assumption))), gives_k (by kernel_rfl)⟩
    · intro U W hx hR
      clear hR
      have hP := HPZ.out.ext hx; have y1 := hP.cell 0 _ rfl; have y2 := hP.cell 1 _ rfl; have y3 := hP.cell 2 _ rfl; have l1 := hP.lt; clear hP
      refine StepZ.go rfl ?_
      go_simp
      exact ⟨(by repeat (first | exact Ext.refl _ | assumption | refine Ext.alloc ?_ _ | refine Ext.drew ?_ | refine Ext.drewN ?_ _ | (refine Ext.setCell ?_ (by simp <;> omega) _) | refine Ext.trans ?_ (by assumption))), gives_k (by kernel_rfl)⟩
    · intro U W hx hR
      clear hR
      refine StepZ.go rfl ?_
      go_simp
      exact ⟨(by repeat (first | exact Ext.refl _ | assumption | refine Ext.alloc ?_ _ | refine Ext.drew ?_ | refine Ext.drewN ?_ _ | (refine Ext.setCell ?_ (by simp <;> omega) _) | refine Ext.trans ?_ (by assumption))), gives_k (by kernel_rfl)⟩
    · intro U W hx hR
      clear hR
      refine StepZ.go rfl ?_
      go_simp
      exact ⟨(by repeat (first | exact Ext.refl _ | assumption | refine Ext.alloc ?_ _ | refine Ext.drew ?_ | refine Ext.drewN ?_ _ | (refine Ext.setCell ?_ (by simp <;> omega) _) | refine Ext.trans ?_ (by assumption))), gives_k (by kernel_rfl)⟩
    · intro U W hx hR
      clear hR
      refine StepZ.go rfl ?_
      go_simp
      exact ⟨(by repeat (first | exact Ext.refl _ | assumption | refine Ext.alloc ?_ _ | refine Ext.drew ?_ | refine Ext.drewN ?_ _ | (refine Ext.setCell ?_ (by simp <;> omega) _) | refine Ext.trans ?_ (by assumption))), gives_k (by kernel_rfl)⟩
    · intro U W hx hR
      clear hR
      refine StepZ.go rfl ?_
      go_simp
      exact ⟨(by repeat (first | exact Ext.refl _ | assumption | refine Ext.alloc ?_ _ | refine Ext.drew ?_ | refine Ext.drewN ?_ _ | (refine Ext.setCell ?_ (by simp <;> omega) _) | refine Ext.trans ?_ (by assumption))), gives_k (by kernel_rfl)⟩
    · intro U W hx hR
      clear hR
      have hP := (HRZ.out.ext hx).blk; have y1 := hP.cell 7 _ rfl; have l1 := hP.lt; clear hP
      refine StepZ.go rfl ?_
      go_simp
      exact ⟨(by repeat (first | exact Ext.refl _ | assumption | refine Ext.alloc ?_ _ | refine Ext.drew ?_ | refine Ext.drewN ?_ _ | (refine Ext.setCell ?_ (by simp <;> omega) _) | refine Ext.trans ?_ (by assumption))), gives_k (by kernel_rfl)⟩
    · intro U W hx hR
      clear hR
      refine StepZ.go rfl ?_
      go_simp
      exact ⟨(by repeat (first | exact Ext.refl _ | assumption | refine Ext.alloc ?_ _ | refine Ext.drew ?_ | refine Ext.drewN ?_ _ | (refine Ext.setCell ?_ (by simp <;> omega) _) | refine Ext.trans ?_ (by assumption))), gives_k (by kernel_rfl)⟩
    · intro U W hx hR
      clear hR
      have hlk := HLK.out W hx
      refine StepZ.go rfl ?_
      go_simp
      exact ⟨(by repeat (first | exact Ext.refl _ | assumption | refine Ext.alloc ?_ _ | refine Ext.drew ?_ | refine Ext.drewN ?_ _ | (refine Ext.setCell ?_ (by simp <;> omega) _) | refine Ext.trans ?_ (by assumption))), gives_k (by kernel_rfl)⟩
    · intro U W hx hR
      clear hR
      refine StepZ.go rfl ?_
      go_simp
      refine Calls.mono (CSX.out _ (HFZ.out.ext hx) (HSZ.out.ext hx).ri) ?_; rintro e w4 ⟨A2, c2, rfl, hs2, hb⟩; exact ⟨_, rfl, hb, gives_e (by kernel_rfl) ⟨fun _ => ⟨A2, c2, rfl, hs2.mono (by have h8 := HXZ.out.size; have h9 := hx.size; omega)⟩, fun e => absurd e (by decide), fun e => absurd e (by decide), fun e => absurd e (by decide)⟩⟩
    · intro U W hx hR
      have r9 := (hR 9 (by decide) (by kernel_rfl)).1 rfl; obtain ⟨A9, c9, e9_, s9⟩ := r9
      clear hR
      (try rw [e9_])
      refine StepZ.go rfl ?_
      go_simp
      exact ⟨Ext.refl _, gives_e (by kernel_rfl) ⟨fun e => absurd e (by decide), fun _ => ⟨A9, c9, rfl, s9⟩, fun e => absurd e (by decide), fun e => absurd e (by decide)⟩⟩
    · intro U W hx hR
      have r10 := (hR 10 (by decide) (by kernel_rfl)).2.1 rfl; obtain ⟨A10, c10, e10_, s10⟩ := r10
      clear hR
      (try rw [e10_])
      refine StepZ.go rfl ?_
      go_simp
      exact ⟨Ext.refl _, gives_e (by kernel_rfl) ⟨fun e => absurd e (by decide), fun e => absurd e (by decide), fun _ => ⟨A10, c10, rfl, s10⟩, fun e => absurd e (by decide)⟩⟩
    · intro U W hx hR
      have r10 := (hR 10 (by decide) (by kernel_rfl)).2.1 rfl; obtain ⟨A10, c10, e10_, s10⟩ := r10
      clear hR
      (try rw [e10_])
      refine StepZ.go rfl ?_
      go_simp
      exact ⟨(by repeat (first | exact Ext.refl _ | assumption | refine Ext.alloc ?_ _ | refine Ext.drew ?_ | refine Ext.drewN ?_ _ | (refine Ext.setCell ?_ (by simp <;> omega) _) | refine Ext.trans ?_ (by assumption))), gives_k (by kernel_rfl)⟩
    · intro U W hx hR
      have r11 := (hR 11 (by decide) (by kernel_rfl)).2.2.1 rfl; obtain ⟨A11, c11, e11_, s11⟩ := r11
      clear hR
      (try rw [e11_])
      refine StepZ.go rfl ?_
      go_simp
      exact ⟨Ext.refl _, gives_e (by kernel_rfl) ⟨fun e => absurd e (by decide), fun e => absurd e (by decide), fun e => absurd e (by decide), fun _ => ⟨A11, c11, rfl, s11⟩⟩⟩
    · intro U W hx hR
      clear hR
      refine StepZ.go rfl ?_
      go_simp
      exact ⟨(by repeat (first | exact Ext.refl _ | assumption | refine Ext.alloc ?_ _ | refine Ext.drew ?_ | refine Ext.drewN ?_ _ | (refine Ext.setCell ?_ (by simp <;> omega) _) | refine Ext.trans ?_ (by assumption))), gives_k (by kernel_rfl)⟩
    · intro U W hx hR
      have r9 := (hR 9 (by decide) (by kernel_rfl)).1 rfl; obtain ⟨A9, c9, e9_, s9⟩ := r9
      have r10 := (hR 10 (by decide) (by kernel_rfl)).2.1 rfl; obtain ⟨A10, c10, e10_, s10⟩ := r10
      have r11 := (hR 11 (by decide) (by kernel_rfl)).2.2.1 rfl; obtain ⟨A11, c11, e11_, s11⟩ := r11
      have r13 := (hR 13 (by decide) (by kernel_rfl)).2.2.2 rfl; obtain ⟨A13, c13, e13_, s13⟩ := r13
      clear hR
      simp only [putAll, vu, Act.put, List.setIfInBounds_toArray, List.set_cons_zero, List.set_cons_succ]
      (try simp only [e9_])
      (try simp only [e10_])
      (try simp only [e11_])
      (try simp only [e13_])
      have HS13 := Lib.hid s13
      clear s9 s10 s11 s13
      cases ov with
      | none =>
        simp only [Option.getD_none, List.length_nil, Option.isSome_none] at *
        go_wp2
        go_ret2
        rw [HV.out, HE.out]
        exact ⟨none, 0, rfl, SL.nil _ _, HXZ.out.trans hx⟩
      | some zs =>
        simp only [Option.getD_some, Option.isSome_some] at *
        go_wp2
        go_ret2
        rw [HV.out, HE.out]
        exact ⟨A13, c13, rfl, HS13.out, HXZ.out.trans hx⟩
end Go.Proofs.YtccdnieoaejgdaaGreatDoor
