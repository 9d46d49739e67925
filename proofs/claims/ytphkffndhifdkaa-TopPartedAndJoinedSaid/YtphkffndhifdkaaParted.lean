/-
  Walk: TopPartedAndJoined returns true.
-/
import Derived.Test.YtphkffndhifdkaaPartedLib
import Derived.Deep.RegionHeld3
namespace Go.Proofs.Ytphkffndhifdkaa.parted
open Go.RowKit
theorem metalOfV_ok {f : FT} {zs : List Int} (h : caseErr f zs = 0) : metalOfV f zs = .tuple #[.int .i64 (metalR f zs), .int .i64 0] := by unfold metalOfV; rw [if_neg (by rw [h]; simp), h]
set_option maxRecDepth 100000 in
set_option maxHeartbeats 8000000 in
theorem walk (f : FT) (A : Option Addr) (c : Nat) (X0 : Option Addr) (cx : Nat) (xs : List Int) (Y : Option Addr) (cy : Nat) (rows : List SI) (w : World) (hf : FR w A c f) (hx : RI w X0 xs.length xs) (hy : RL w Y rows.length rows) :
    Calls Try.prog 3 #[f.val A c, .slice X0 xs.length cx, .slice Y rows.length cy] w (Ret (.bool true) w) := by
  have cFew := fun W h => few_any f A c W h
  have cChk := fun W h1 h2 => rCheckCase_any f A c X0 cx xs W h1 h2
  have HF := Lib.hid hf; have HX := Lib.hid hx; have HY := Lib.hid hy; have hby := hy.2.1; clear hf hx hy
  by_cases hrl : rows.length ≤ 5
  case neg =>
    have hr5 : (5 : Int) < (rows.length : Int) := by omega
    generalize fewB f = fb at *
    obtain ⟨name, body, ss⟩ := f
    simp only [FT.val] at *
    have CF := Lib.hid cFew; clear cFew cChk
    cases fb
    · go_enter Try.func3, Try.ntmps3
      go_wp2_with (first | (go_at_call 5; refine Calls.mono (topCast_any _) ?_; rintro e w1 ⟨rfl, hb⟩; have H1 := Lib.hid (Here.start (name := name) (body := body) (A := A) (n := ss.length) (c := c) w hb); obtain ⟨a0, a1, a2, al⟩ := H1.out.blk.c3; clear hb) | (go_at_call 6; refine Calls.mono (CF.out _ ?_) ?_; (exact HF.out.ext (H1.out.ext.trans (by repeat (first | exact Ext.refl _ | assumption | refine Ext.alloc ?_ _ | refine Ext.drew ?_ | refine Ext.drewN ?_ _ | (refine Ext.setCell ?_ (by simp <;> omega) _) | refine Ext.trans ?_ (by assumption))))); rintro e w2 ⟨rfl, hb⟩; have H2 := Lib.hid (H1.out.next (Ext.trans (by repeat (first | exact Ext.refl _ | assumption | refine Ext.alloc ?_ _ | refine Ext.drew ?_ | refine Ext.drewN ?_ _ | (refine Ext.setCell ?_ (by simp <;> omega) _) | refine Ext.trans ?_ (by assumption))) hb)); obtain ⟨b0, b1, b2, bl⟩ := H2.out.blk.c3; clear hb))
      go_ret
      exact Ret.mk' rfl (H2.out.ext.trans (by repeat (first | exact Ext.refl _ | assumption | refine Ext.alloc ?_ _ | refine Ext.drew ?_ | refine Ext.drewN ?_ _ | (refine Ext.setCell ?_ (by simp <;> omega) _) | refine Ext.trans ?_ (by assumption))))
    · go_enter Try.func3, Try.ntmps3
      go_wp2_with (first | (go_at_call 5; refine Calls.mono (topCast_any _) ?_; rintro e w1 ⟨rfl, hb⟩; have H1 := Lib.hid (Here.start (name := name) (body := body) (A := A) (n := ss.length) (c := c) w hb); obtain ⟨a0, a1, a2, al⟩ := H1.out.blk.c3; clear hb) | (go_at_call 6; refine Calls.mono (CF.out _ ?_) ?_; (exact HF.out.ext (H1.out.ext.trans (by repeat (first | exact Ext.refl _ | assumption | refine Ext.alloc ?_ _ | refine Ext.drew ?_ | refine Ext.drewN ?_ _ | (refine Ext.setCell ?_ (by simp <;> omega) _) | refine Ext.trans ?_ (by assumption))))); rintro e w2 ⟨rfl, hb⟩; have H2 := Lib.hid (H1.out.next (Ext.trans (by repeat (first | exact Ext.refl _ | assumption | refine Ext.alloc ?_ _ | refine Ext.drew ?_ | refine Ext.drewN ?_ _ | (refine Ext.setCell ?_ (by simp <;> omega) _) | refine Ext.trans ?_ (by assumption))) hb)); obtain ⟨b0, b1, b2, bl⟩ := H2.out.blk.c3; clear hb))
      go_ret
      exact Ret.mk' rfl (H2.out.ext.trans (by repeat (first | exact Ext.refl _ | assumption | refine Ext.alloc ?_ _ | refine Ext.drew ?_ | refine Ext.drewN ?_ _ | (refine Ext.setCell ?_ (by simp <;> omega) _) | refine Ext.trans ?_ (by assumption))))
  case pos =>
  have hr5 : ¬ (5 : Int) < (rows.length : Int) := by omega
  cases hfw : fewB f with
  | false =>
    rw [hfw] at cFew
    obtain ⟨name, body, ss⟩ := f
    simp only [FT.val] at *
    have CF := Lib.hid cFew; clear cFew cChk hfw
    go_enter Try.func3, Try.ntmps3
    go_wp2_with (first | (go_at_call 5; refine Calls.mono (topCast_any _) ?_; rintro e w1 ⟨rfl, hb⟩; have H1 := Lib.hid (Here.start (name := name) (body := body) (A := A) (n := ss.length) (c := c) w hb); obtain ⟨a0, a1, a2, al⟩ := H1.out.blk.c3; clear hb) | (go_at_call 6; refine Calls.mono (CF.out _ ?_) ?_; (exact HF.out.ext (H1.out.ext.trans (by repeat (first | exact Ext.refl _ | assumption | refine Ext.alloc ?_ _ | refine Ext.drew ?_ | refine Ext.drewN ?_ _ | (refine Ext.setCell ?_ (by simp <;> omega) _) | refine Ext.trans ?_ (by assumption))))); rintro e w2 ⟨rfl, hb⟩; have H2 := Lib.hid (H1.out.next (Ext.trans (by repeat (first | exact Ext.refl _ | assumption | refine Ext.alloc ?_ _ | refine Ext.drew ?_ | refine Ext.drewN ?_ _ | (refine Ext.setCell ?_ (by simp <;> omega) _) | refine Ext.trans ?_ (by assumption))) hb)); obtain ⟨b0, b1, b2, bl⟩ := H2.out.blk.c3; clear hb))
    go_ret
    exact Ret.mk' rfl (H2.out.ext.trans (by repeat (first | exact Ext.refl _ | assumption | refine Ext.alloc ?_ _ | refine Ext.drew ?_ | refine Ext.drewN ?_ _ | (refine Ext.setCell ?_ (by simp <;> omega) _) | refine Ext.trans ?_ (by assumption))))
  | true =>
    rw [hfw] at cFew
    clear hfw
    by_cases hce : caseErr f xs = 0
    case neg =>
      generalize caseErr f xs = ce at *
      have e1 : (ce != 0) = true := by simpa using hce
      obtain ⟨name, body, ss⟩ := f
      simp only [FT.val] at *
      have CF := Lib.hid cFew; have CC := Lib.hid cChk; clear cFew cChk hce
      go_enter Try.func3, Try.ntmps3
      go_wp2_with (first | (go_at_call 5; refine Calls.mono (topCast_any _) ?_; rintro e w1 ⟨rfl, hb⟩; have H1 := Lib.hid (Here.start (name := name) (body := body) (A := A) (n := ss.length) (c := c) w hb); obtain ⟨a0, a1, a2, al⟩ := H1.out.blk.c3; clear hb) | (go_at_call 6; refine Calls.mono (CF.out _ ?_) ?_; (exact HF.out.ext (H1.out.ext.trans (by repeat (first | exact Ext.refl _ | assumption | refine Ext.alloc ?_ _ | refine Ext.drew ?_ | refine Ext.drewN ?_ _ | (refine Ext.setCell ?_ (by simp <;> omega) _) | refine Ext.trans ?_ (by assumption))))); rintro e w2 ⟨rfl, hb⟩; have H2 := Lib.hid (H1.out.next (Ext.trans (by repeat (first | exact Ext.refl _ | assumption | refine Ext.alloc ?_ _ | refine Ext.drew ?_ | refine Ext.drewN ?_ _ | (refine Ext.setCell ?_ (by simp <;> omega) _) | refine Ext.trans ?_ (by assumption))) hb)); obtain ⟨b0, b1, b2, bl⟩ := H2.out.blk.c3; clear hb) | (go_at_call 7; refine Calls.mono (CC.out _ ?_ ?_) ?_; (exact HF.out.ext (H2.out.ext.trans (by repeat (first | exact Ext.refl _ | assumption | refine Ext.alloc ?_ _ | refine Ext.drew ?_ | refine Ext.drewN ?_ _ | (refine Ext.setCell ?_ (by simp <;> omega) _) | refine Ext.trans ?_ (by assumption))))); (exact HX.out.ext (H2.out.ext.trans (by repeat (first | exact Ext.refl _ | assumption | refine Ext.alloc ?_ _ | refine Ext.drew ?_ | refine Ext.drewN ?_ _ | (refine Ext.setCell ?_ (by simp <;> omega) _) | refine Ext.trans ?_ (by assumption))))); rintro e w3 ⟨rfl, hb⟩; have H3 := Lib.hid (H2.out.next (Ext.trans (by repeat (first | exact Ext.refl _ | assumption | refine Ext.alloc ?_ _ | refine Ext.drew ?_ | refine Ext.drewN ?_ _ | (refine Ext.setCell ?_ (by simp <;> omega) _) | refine Ext.trans ?_ (by assumption))) hb)); obtain ⟨d0, d1, d2, dl⟩ := H3.out.blk.c3; clear hb))
      go_ret
      exact Ret.mk' rfl (H3.out.ext.trans (by repeat (first | exact Ext.refl _ | assumption | refine Ext.alloc ?_ _ | refine Ext.drew ?_ | refine Ext.drewN ?_ _ | (refine Ext.setCell ?_ (by simp <;> omega) _) | refine Ext.trans ?_ (by assumption))))
    case pos =>
    rw [hce] at cChk
    obtain ⟨hck0, hxc0⟩ := case_zero hce
    have HCK := Lib.hid hck0; have HXC := Lib.hid hxc0
    have HMX := Lib.hid hce
    have HXL : Hid (xs.length ≤ 1000000) := Lib.hid (by obtain ⟨l, _⟩ := counts_zero hxc0; obtain ⟨_, _, h, _⟩ := chk_zero hck0; omega)
    clear hck0 hxc0 hce
    obtain ⟨name, body, ss⟩ := f
    simp only [FT.val] at *
    have CF := Lib.hid cFew; have CC := Lib.hid cChk; clear cFew cChk
    go_enter Try.func3, Try.ntmps3
    go_wp2_with (first | (go_at_call 5; refine Calls.mono (topCast_any _) ?_; rintro e w1 ⟨rfl, hb⟩; have H1 := Lib.hid (Here.start (name := name) (body := body) (A := A) (n := ss.length) (c := c) w hb); obtain ⟨a0, a1, a2, al⟩ := H1.out.blk.c3; clear hb) | (go_at_call 6; refine Calls.mono (CF.out _ ?_) ?_; (exact HF.out.ext (H1.out.ext.trans (by repeat (first | exact Ext.refl _ | assumption | refine Ext.alloc ?_ _ | refine Ext.drew ?_ | refine Ext.drewN ?_ _ | (refine Ext.setCell ?_ (by simp <;> omega) _) | refine Ext.trans ?_ (by assumption))))); rintro e w2 ⟨rfl, hb⟩; have H2 := Lib.hid (H1.out.next (Ext.trans (by repeat (first | exact Ext.refl _ | assumption | refine Ext.alloc ?_ _ | refine Ext.drew ?_ | refine Ext.drewN ?_ _ | (refine Ext.setCell ?_ (by simp <;> omega) _) | refine Ext.trans ?_ (by assumption))) hb)); obtain ⟨b0, b1, b2, bl⟩ := H2.out.blk.c3; clear hb) | (go_at_call 7; refine Calls.mono (CC.out _ ?_ ?_) ?_; (exact HF.out.ext (H2.out.ext.trans (by repeat (first | exact Ext.refl _ | assumption | refine Ext.alloc ?_ _ | refine Ext.drew ?_ | refine Ext.drewN ?_ _ | (refine Ext.setCell ?_ (by simp <;> omega) _) | refine Ext.trans ?_ (by assumption))))); (exact HX.out.ext (H2.out.ext.trans (by repeat (first | exact Ext.refl _ | assumption | refine Ext.alloc ?_ _ | refine Ext.drew ?_ | refine Ext.drewN ?_ _ | (refine Ext.setCell ?_ (by simp <;> omega) _) | refine Ext.trans ?_ (by assumption))))); rintro e w3 ⟨rfl, hb⟩; have H3 := Lib.hid (H2.out.next (Ext.trans (by repeat (first | exact Ext.refl _ | assumption | refine Ext.alloc ?_ _ | refine Ext.drew ?_ | refine Ext.drewN ?_ _ | (refine Ext.setCell ?_ (by simp <;> omega) _) | refine Ext.trans ?_ (by assumption))) hb)); obtain ⟨d0, d1, d2, dl⟩ := H3.out.blk.c3; clear hb) | (go_at_call 8; refine Calls.mono (copyInts_any _ _ _ _ ?_ ?_) ?_; (exact HX.out.ext (H3.out.ext.trans (by repeat (first | exact Ext.refl _ | assumption | refine Ext.alloc ?_ _ | refine Ext.drew ?_ | refine Ext.drewN ?_ _ | (refine Ext.setCell ?_ (by simp <;> omega) _) | refine Ext.trans ?_ (by assumption))))); (exact HXL.out); rintro e w4 ⟨L0, cl0, rfl, hS, hb⟩; have H4 := Lib.hid (H3.out.next (Ext.trans (by repeat (first | exact Ext.refl _ | assumption | refine Ext.alloc ?_ _ | refine Ext.drew ?_ | refine Ext.drewN ?_ _ | (refine Ext.setCell ?_ (by simp <;> omega) _) | refine Ext.trans ?_ (by assumption))) hb)); have HL := Lib.hid hS.ri; clear hS hb))
    go_loopw [7, 8, 9, 10] (fun L M T I wr => ∃ (k : Nat) (B : Option Addr) (d : Nat) (ls : List Int) (m : Int) (tk : List SI), k ≤ rows.length ∧ tk.length ≤ k ∧ I = .int .i64 k ∧ L = .slice B ls.length d ∧ M = .int .i64 m ∧ Kept w ⟨name, body, ss⟩ A c xs wr B ls m T tk) (fun _ _ _ I _ => rows.length - (intOf I).toNat)
    case atStart => exact ⟨0, L0, cl0, xs, 0, [], Nat.zero_le _, Nat.le_refl _, rfl, rfl, rfl, Kept.start (f := ⟨name, body, ss⟩) H4.out HL.out HXC.out⟩
    case round =>
      obtain ⟨k, B, d, ls, m, tk, hk, htk, rfl, rfl, rfl, hkept⟩ := hrel
      have HK := Lib.hid hkept
      have K0 : Hid (Here w name body A ss.length c wr) := Lib.hid hkept.here
      have HLS := Lib.hid hkept.left
      obtain ⟨q0, q1, q2, ql⟩ := K0.out.blk.c3
      have HIC := Lib.hid (hkept.inv.counts HXC.out)
      have HBD := hkept.inv.bd HCK.out HXC.out
      have HTL : Hid (tk.length ≤ 1000000) := Lib.hid (by omega)
      clear H1 H2 H3 H4 HL a0 a1 a2 al b0 b1 b2 bl d0 d1 d2 dl
      by_cases hlt : k < rows.length
      case pos =>
        obtain ⟨b, off, rfl, hbw, hcell⟩ := HY.out.2.2.1 (by omega)
        have hrow := HY.out.2.2.2 k hlt
        have c1 := hcell k hlt
        clear hcell
        generalize rows.getD k SI.none_ = s at *
        obtain ⟨X, e0, zs⟩ := s
        simp only [SI.val] at *
        have HRW := Lib.hid hrow; clear hrow
        have qr := K0.out.row hbw c1
        have hki : (k : Int) < (rows.length : Int) := by omega
        have cz := fun W h1 h2 => rCheckCase_any ⟨name, body, ss⟩ A c X e0 zs W h1 h2
        simp only [FT.val] at cz
        by_cases hz : caseErr ⟨name, body, ss⟩ zs = 0
        case neg =>
          generalize caseErr ⟨name, body, ss⟩ zs = z at *
          have e1 : (z != 0) = true := by simpa using hz
          have CZ := Lib.hid cz; clear cz hz hkept HBD
          go_wp2
          go_region_held3 (fun W => W.cell? ⟨w.heap.size, 0, none⟩ = some (.string name) ∧ W.cell? ⟨w.heap.size, 1, none⟩ = some (.int .i64 body) ∧ W.cell? ⟨w.heap.size, 2, none⟩ = some (.slice A ss.length c) ∧ W.cell? ⟨b, off + k, none⟩ = some (.slice X zs.length e0) ∧ w.heap.size < W.heap.size) ((first | exact ⟨x0, x1, x2, xr, xl⟩ | exact ⟨q0, q1, q2, qr, ql⟩ | go_keep))
            (((go_at_call 7; refine Calls.mono (CZ.out _ ?_ ?_) ?_; (exact HF.out.ext (K0.out.ext.trans (by repeat (first | exact Ext.refl _ | assumption | refine Ext.alloc ?_ _ | refine Ext.drew ?_ | refine Ext.drewN ?_ _ | (refine Ext.setCell ?_ (by simp <;> omega) _) | refine Ext.trans ?_ (by assumption))))); (exact HRW.out.ext (K0.out.ext.trans (by repeat (first | exact Ext.refl _ | assumption | refine Ext.alloc ?_ _ | refine Ext.drew ?_ | refine Ext.drewN ?_ _ | (refine Ext.setCell ?_ (by simp <;> omega) _) | refine Ext.trans ?_ (by assumption))))); rintro e W1 ⟨rfl, hb⟩; have K1 := Lib.hid (K0.out.next (Ext.trans (by repeat (first | exact Ext.refl _ | assumption | refine Ext.alloc ?_ _ | refine Ext.drew ?_ | refine Ext.drewN ?_ _ | (refine Ext.setCell ?_ (by simp <;> omega) _) | refine Ext.trans ?_ (by assumption))) hb)); obtain ⟨x0, x1, x2, xl⟩ := K1.out.blk.c3; have xr := K1.out.row hbw c1; have E1 := Lib.hid (show Ext wr W1 from Ext.trans (by repeat (first | exact Ext.refl _ | assumption | refine Ext.alloc ?_ _ | refine Ext.drew ?_ | refine Ext.drewN ?_ _ | (refine Ext.setCell ?_ (by simp <;> omega) _) | refine Ext.trans ?_ (by assumption))) hb); clear hb)))
          go_wp2
          go_ret
          exact Ret.mk' rfl (K1.out.ext.trans (by repeat (first | exact Ext.refl _ | assumption | refine Ext.alloc ?_ _ | refine Ext.drew ?_ | refine Ext.drewN ?_ _ | (refine Ext.setCell ?_ (by simp <;> omega) _) | refine Ext.trans ?_ (by assumption))))
        case pos =>
        rw [hz] at cz
        have CZ := Lib.hid cz; clear cz
        have hzs := (case_zero hz).2
        have herr2 := err2_ok HCK.out HIC.out hzs
        have cl := fun W h1 h2 h3 => lacking_any ⟨name, body, ss⟩ A c B d X e0 ls zs W h1 h2 h3
        have ct := fun W h1 h2 h3 => taken_any ⟨name, body, ss⟩ A c B d X e0 ls zs W h1 h2 h3
        rw [lack_ok herr2] at cl
        rcases take_cases herr2 with ⟨ht, hle⟩ | ⟨kk, ht⟩
        · rw [ht] at ct
          have HN := Lib.hid (hkept.inv.take (s := ⟨X, e0, zs⟩) hzs hle)
          have cm := fun W h1 h2 => metalOf_any ⟨name, body, ss⟩ A c X e0 zs W h1 h2
          rw [metalOfV_ok hz] at cm
          have hmb := metal_bd HCK.out hzs
          simp only [FT.val] at ct cl cm HN
          generalize metalR ⟨name, body, ss⟩ zs = ms at *
          generalize metalR ⟨name, body, ss⟩ ls = ml at *
          generalize zipK (· - ·) ls zs = nx at *
          generalize zipK lacksI ls zs = lk at *
          have CT := Lib.hid ct; have CL := Lib.hid cl; have CM := Lib.hid cm
          clear ct cl cm ht hle herr2 hzs hz hkept
          obtain ⟨hm1, hm2⟩ := hmb
          obtain ⟨hm3, hm4, hm5, hm6⟩ := HBD
          go_wp2
          go_region_held3 (fun W => W.cell? ⟨w.heap.size, 0, none⟩ = some (.string name) ∧ W.cell? ⟨w.heap.size, 1, none⟩ = some (.int .i64 body) ∧ W.cell? ⟨w.heap.size, 2, none⟩ = some (.slice A ss.length c) ∧ W.cell? ⟨b, off + k, none⟩ = some (.slice X zs.length e0) ∧ w.heap.size < W.heap.size) ((first | exact ⟨x0, x1, x2, xr, xl⟩ | exact ⟨q0, q1, q2, qr, ql⟩ | go_keep))
            (((go_at_call 7; refine Calls.mono (CZ.out _ ?_ ?_) ?_; (exact HF.out.ext (K0.out.ext.trans (by repeat (first | exact Ext.refl _ | assumption | refine Ext.alloc ?_ _ | refine Ext.drew ?_ | refine Ext.drewN ?_ _ | (refine Ext.setCell ?_ (by simp <;> omega) _) | refine Ext.trans ?_ (by assumption))))); (exact HRW.out.ext (K0.out.ext.trans (by repeat (first | exact Ext.refl _ | assumption | refine Ext.alloc ?_ _ | refine Ext.drew ?_ | refine Ext.drewN ?_ _ | (refine Ext.setCell ?_ (by simp <;> omega) _) | refine Ext.trans ?_ (by assumption))))); rintro e W1 ⟨rfl, hb⟩; have K1 := Lib.hid (K0.out.next (Ext.trans (by repeat (first | exact Ext.refl _ | assumption | refine Ext.alloc ?_ _ | refine Ext.drew ?_ | refine Ext.drewN ?_ _ | (refine Ext.setCell ?_ (by simp <;> omega) _) | refine Ext.trans ?_ (by assumption))) hb)); obtain ⟨x0, x1, x2, xl⟩ := K1.out.blk.c3; have xr := K1.out.row hbw c1; have E1 := Lib.hid (show Ext wr W1 from Ext.trans (by repeat (first | exact Ext.refl _ | assumption | refine Ext.alloc ?_ _ | refine Ext.drew ?_ | refine Ext.drewN ?_ _ | (refine Ext.setCell ?_ (by simp <;> omega) _) | refine Ext.trans ?_ (by assumption))) hb); clear hb)))
          go_wp2
          go_region_held3 (fun W => W.cell? ⟨w.heap.size, 0, none⟩ = some (.string name) ∧ W.cell? ⟨w.heap.size, 1, none⟩ = some (.int .i64 body) ∧ W.cell? ⟨w.heap.size, 2, none⟩ = some (.slice A ss.length c) ∧ W.cell? ⟨b, off + k, none⟩ = some (.slice X zs.length e0) ∧ w.heap.size < W.heap.size) ((first | exact ⟨y0, y1, y2, yr, yl⟩ | exact ⟨x0, x1, x2, xr, xl⟩ | go_keep))
            (((go_at_call 9; refine Calls.mono (CT.out _ ?_ ?_ ?_) ?_; (exact HF.out.ext (K1.out.ext.trans (by repeat (first | exact Ext.refl _ | assumption | refine Ext.alloc ?_ _ | refine Ext.drew ?_ | refine Ext.drewN ?_ _ | (refine Ext.setCell ?_ (by simp <;> omega) _) | refine Ext.trans ?_ (by assumption))))); (exact HLS.out.ext (E1.out.trans (by repeat (first | exact Ext.refl _ | assumption | refine Ext.alloc ?_ _ | refine Ext.drew ?_ | refine Ext.drewN ?_ _ | (refine Ext.setCell ?_ (by simp <;> omega) _) | refine Ext.trans ?_ (by assumption))))); (exact HRW.out.ext (K1.out.ext.trans (by repeat (first | exact Ext.refl _ | assumption | refine Ext.alloc ?_ _ | refine Ext.drew ?_ | refine Ext.drewN ?_ _ | (refine Ext.setCell ?_ (by simp <;> omega) _) | refine Ext.trans ?_ (by assumption))))); rintro e W2 ⟨Z, cz, rfl, hS, hb⟩; have K2 := Lib.hid (K1.out.next (Ext.trans (by repeat (first | exact Ext.refl _ | assumption | refine Ext.alloc ?_ _ | refine Ext.drew ?_ | refine Ext.drewN ?_ _ | (refine Ext.setCell ?_ (by simp <;> omega) _) | refine Ext.trans ?_ (by assumption))) hb)); obtain ⟨y0, y1, y2, yl⟩ := K2.out.blk.c3; have yr := K2.out.row hbw c1; have E2 := Lib.hid (E1.out.trans (Ext.trans (by repeat (first | exact Ext.refl _ | assumption | refine Ext.alloc ?_ _ | refine Ext.drew ?_ | refine Ext.drewN ?_ _ | (refine Ext.setCell ?_ (by simp <;> omega) _) | refine Ext.trans ?_ (by assumption))) hb)); have HS := Lib.hid hS; clear hS hb)))
          go_wp2
          go_region_held3 (fun W => W.cell? ⟨w.heap.size, 0, none⟩ = some (.string name) ∧ W.cell? ⟨w.heap.size, 1, none⟩ = some (.int .i64 body) ∧ W.cell? ⟨w.heap.size, 2, none⟩ = some (.slice A ss.length c) ∧ W.cell? ⟨b, off + k, none⟩ = some (.slice X zs.length e0) ∧ w.heap.size < W.heap.size) ((first | exact ⟨z0, z1, z2, zr, zl⟩ | exact ⟨y0, y1, y2, yr, yl⟩ | go_keep))
            (((go_at_call 10; refine Calls.mono (CL.out _ ?_ ?_ ?_) ?_; (exact HF.out.ext (K2.out.ext.trans (by repeat (first | exact Ext.refl _ | assumption | refine Ext.alloc ?_ _ | refine Ext.drew ?_ | refine Ext.drewN ?_ _ | (refine Ext.setCell ?_ (by simp <;> omega) _) | refine Ext.trans ?_ (by assumption))))); (exact HLS.out.ext (E2.out.trans (by repeat (first | exact Ext.refl _ | assumption | refine Ext.alloc ?_ _ | refine Ext.drew ?_ | refine Ext.drewN ?_ _ | (refine Ext.setCell ?_ (by simp <;> omega) _) | refine Ext.trans ?_ (by assumption))))); (exact HRW.out.ext (K2.out.ext.trans (by repeat (first | exact Ext.refl _ | assumption | refine Ext.alloc ?_ _ | refine Ext.drew ?_ | refine Ext.drewN ?_ _ | (refine Ext.setCell ?_ (by simp <;> omega) _) | refine Ext.trans ?_ (by assumption))))); rintro e W3 ⟨Y1, cy1, rfl, hS, hb⟩; have K3 := Lib.hid (K2.out.next (Ext.trans (by repeat (first | exact Ext.refl _ | assumption | refine Ext.alloc ?_ _ | refine Ext.drew ?_ | refine Ext.drewN ?_ _ | (refine Ext.setCell ?_ (by simp <;> omega) _) | refine Ext.trans ?_ (by assumption))) hb)); obtain ⟨z0, z1, z2, zl⟩ := K3.out.blk.c3; have zr := K3.out.row hbw c1; have E23 := Lib.hid (show Ext W2 W3 from Ext.trans (by repeat (first | exact Ext.refl _ | assumption | refine Ext.alloc ?_ _ | refine Ext.drew ?_ | refine Ext.drewN ?_ _ | (refine Ext.setCell ?_ (by simp <;> omega) _) | refine Ext.trans ?_ (by assumption))) hb); have E3 := Lib.hid (E2.out.trans E23.out); have HLK := Lib.hid hS.ri; clear hS hb)))
          go_wp2
          go_region_held3 (fun W => W.cell? ⟨w.heap.size, 0, none⟩ = some (.string name) ∧ W.cell? ⟨w.heap.size, 1, none⟩ = some (.int .i64 body) ∧ W.cell? ⟨w.heap.size, 2, none⟩ = some (.slice A ss.length c) ∧ W.cell? ⟨b, off + k, none⟩ = some (.slice X zs.length e0) ∧ w.heap.size < W.heap.size) ((first | exact ⟨u0, u1, u2, ur, ul⟩ | exact ⟨z0, z1, z2, zr, zl⟩ | go_keep))
            (((go_at_call 12; refine Calls.mono (CM.out _ ?_ ?_) ?_; (exact HF.out.ext (K3.out.ext.trans (by repeat (first | exact Ext.refl _ | assumption | refine Ext.alloc ?_ _ | refine Ext.drew ?_ | refine Ext.drewN ?_ _ | (refine Ext.setCell ?_ (by simp <;> omega) _) | refine Ext.trans ?_ (by assumption))))); (exact HRW.out.ext (K3.out.ext.trans (by repeat (first | exact Ext.refl _ | assumption | refine Ext.alloc ?_ _ | refine Ext.drew ?_ | refine Ext.drewN ?_ _ | (refine Ext.setCell ?_ (by simp <;> omega) _) | refine Ext.trans ?_ (by assumption))))); rintro e W4 ⟨rfl, hb⟩; have K4 := Lib.hid (K3.out.next (Ext.trans (by repeat (first | exact Ext.refl _ | assumption | refine Ext.alloc ?_ _ | refine Ext.drew ?_ | refine Ext.drewN ?_ _ | (refine Ext.setCell ?_ (by simp <;> omega) _) | refine Ext.trans ?_ (by assumption))) hb)); obtain ⟨u0, u1, u2, ul⟩ := K4.out.blk.c3; have ur := K4.out.row hbw c1; have E34 := Lib.hid (show Ext W3 W4 from Ext.trans (by repeat (first | exact Ext.refl _ | assumption | refine Ext.alloc ?_ _ | refine Ext.drew ?_ | refine Ext.drewN ?_ _ | (refine Ext.setCell ?_ (by simp <;> omega) _) | refine Ext.trans ?_ (by assumption))) hb); clear hb)))
          go_wp2_with (first | (at_builtin; refine list_pushL rfl (.tmp 128) (.tmp 133) rfl (w.heap.size + 1) _ tk rfl ((HK.out.own.ext (E3.out.trans (E34.out.trans (by repeat (first | exact Ext.refl _ | assumption | refine Ext.alloc ?_ _ | refine Ext.drew ?_ | refine Ext.drewN ?_ _ | (refine Ext.setCell ?_ (by simp <;> omega) _) | refine Ext.trans ?_ (by assumption))))))) W4.heap.size ⟨X, e0, zs⟩ rfl (by simp [SI.val]) HTL.out (by simp; omega) ?_; intro T' W5 hown' hg'; have HO' := Lib.hid hown'; have HG' := Lib.hid hg'; clear hown' hg'))
          go_roundw
          case rel =>
            exact ⟨k + 1, Z, cz, nx, m + ms, tk ++ [⟨X, e0, zs⟩], by omega, by simp; omega, by go_num, rfl, rfl,
              HK.out.taken (E3.out.trans (E34.out.trans (by repeat (first | exact Ext.refl _ | assumption | refine Ext.alloc ?_ _ | refine Ext.drew ?_ | refine Ext.drewN ?_ _ | (refine Ext.setCell ?_ (by simp <;> omega) _) | refine Ext.trans ?_ (by assumption))))) E1.out (HS.out.own.ext (E23.out.trans (E34.out.trans (by repeat (first | exact Ext.refl _ | assumption | refine Ext.alloc ?_ _ | refine Ext.drew ?_ | refine Ext.drewN ?_ _ | (refine Ext.setCell ?_ (by simp <;> omega) _) | refine Ext.trans ?_ (by assumption)))))) (HS.out.ri.ext (E23.out.trans (E34.out.trans (by repeat (first | exact Ext.refl _ | assumption | refine Ext.alloc ?_ _ | refine Ext.drew ?_ | refine Ext.drewN ?_ _ | (refine Ext.setCell ?_ (by simp <;> omega) _) | refine Ext.trans ?_ (by assumption)))))) HG'.out HO'.out HRW.out HN.out⟩
          case measure => simp [intOf]; omega
        · rw [ht] at ct
          have cj := fun C e W h1 h2 h3 => joined_any ⟨name, body, ss⟩ A c B d C e ls (zipK lacksI ls zs) W h1 h2 h3
          have hn1 : 1 ≤ ls.length := by obtain ⟨_, h, _, _⟩ := chk_zero HCK.out; have := hkept.inv.len; simp only at h this; omega
          have hlc := lack_counts HIC.out hzs
          rcases join_cases (err2_ok HCK.out HIC.out hlc) hn1 with hj | ⟨hj, hjb⟩
          · rw [hj] at cj
            simp only [FT.val] at ct cl cj
            generalize zipK lacksI ls zs = lk at *
            have CT := Lib.hid ct; have CL := Lib.hid cl; have CJ := Lib.hid cj
            clear ct cl cj ht hj herr2 hzs hz hkept hlc HBD
            go_wp2
            go_region_held3 (fun W => W.cell? ⟨w.heap.size, 0, none⟩ = some (.string name) ∧ W.cell? ⟨w.heap.size, 1, none⟩ = some (.int .i64 body) ∧ W.cell? ⟨w.heap.size, 2, none⟩ = some (.slice A ss.length c) ∧ W.cell? ⟨b, off + k, none⟩ = some (.slice X zs.length e0) ∧ w.heap.size < W.heap.size) ((first | exact ⟨x0, x1, x2, xr, xl⟩ | exact ⟨q0, q1, q2, qr, ql⟩ | go_keep))
              (((go_at_call 7; refine Calls.mono (CZ.out _ ?_ ?_) ?_; (exact HF.out.ext (K0.out.ext.trans (by repeat (first | exact Ext.refl _ | assumption | refine Ext.alloc ?_ _ | refine Ext.drew ?_ | refine Ext.drewN ?_ _ | (refine Ext.setCell ?_ (by simp <;> omega) _) | refine Ext.trans ?_ (by assumption))))); (exact HRW.out.ext (K0.out.ext.trans (by repeat (first | exact Ext.refl _ | assumption | refine Ext.alloc ?_ _ | refine Ext.drew ?_ | refine Ext.drewN ?_ _ | (refine Ext.setCell ?_ (by simp <;> omega) _) | refine Ext.trans ?_ (by assumption))))); rintro e W1 ⟨rfl, hb⟩; have K1 := Lib.hid (K0.out.next (Ext.trans (by repeat (first | exact Ext.refl _ | assumption | refine Ext.alloc ?_ _ | refine Ext.drew ?_ | refine Ext.drewN ?_ _ | (refine Ext.setCell ?_ (by simp <;> omega) _) | refine Ext.trans ?_ (by assumption))) hb)); obtain ⟨x0, x1, x2, xl⟩ := K1.out.blk.c3; have xr := K1.out.row hbw c1; have E1 := Lib.hid (show Ext wr W1 from Ext.trans (by repeat (first | exact Ext.refl _ | assumption | refine Ext.alloc ?_ _ | refine Ext.drew ?_ | refine Ext.drewN ?_ _ | (refine Ext.setCell ?_ (by simp <;> omega) _) | refine Ext.trans ?_ (by assumption))) hb); clear hb)))
            go_wp2
            go_region_held3 (fun W => W.cell? ⟨w.heap.size, 0, none⟩ = some (.string name) ∧ W.cell? ⟨w.heap.size, 1, none⟩ = some (.int .i64 body) ∧ W.cell? ⟨w.heap.size, 2, none⟩ = some (.slice A ss.length c) ∧ W.cell? ⟨b, off + k, none⟩ = some (.slice X zs.length e0) ∧ w.heap.size < W.heap.size) ((first | exact ⟨y0, y1, y2, yr, yl⟩ | exact ⟨x0, x1, x2, xr, xl⟩ | go_keep))
              (((go_at_call 9; refine Calls.mono (CT.out _ ?_ ?_ ?_) ?_; (exact HF.out.ext (K1.out.ext.trans (by repeat (first | exact Ext.refl _ | assumption | refine Ext.alloc ?_ _ | refine Ext.drew ?_ | refine Ext.drewN ?_ _ | (refine Ext.setCell ?_ (by simp <;> omega) _) | refine Ext.trans ?_ (by assumption))))); (exact HLS.out.ext (E1.out.trans (by repeat (first | exact Ext.refl _ | assumption | refine Ext.alloc ?_ _ | refine Ext.drew ?_ | refine Ext.drewN ?_ _ | (refine Ext.setCell ?_ (by simp <;> omega) _) | refine Ext.trans ?_ (by assumption))))); (exact HRW.out.ext (K1.out.ext.trans (by repeat (first | exact Ext.refl _ | assumption | refine Ext.alloc ?_ _ | refine Ext.drew ?_ | refine Ext.drewN ?_ _ | (refine Ext.setCell ?_ (by simp <;> omega) _) | refine Ext.trans ?_ (by assumption))))); rintro e W2 ⟨Z, cz, rfl, hS, hb⟩; have K2 := Lib.hid (K1.out.next (Ext.trans (by repeat (first | exact Ext.refl _ | assumption | refine Ext.alloc ?_ _ | refine Ext.drew ?_ | refine Ext.drewN ?_ _ | (refine Ext.setCell ?_ (by simp <;> omega) _) | refine Ext.trans ?_ (by assumption))) hb)); obtain ⟨y0, y1, y2, yl⟩ := K2.out.blk.c3; have yr := K2.out.row hbw c1; have E2 := Lib.hid (E1.out.trans (Ext.trans (by repeat (first | exact Ext.refl _ | assumption | refine Ext.alloc ?_ _ | refine Ext.drew ?_ | refine Ext.drewN ?_ _ | (refine Ext.setCell ?_ (by simp <;> omega) _) | refine Ext.trans ?_ (by assumption))) hb)); have HS := Lib.hid hS; clear hS hb)))
            go_wp2
            go_region_held3 (fun W => W.cell? ⟨w.heap.size, 0, none⟩ = some (.string name) ∧ W.cell? ⟨w.heap.size, 1, none⟩ = some (.int .i64 body) ∧ W.cell? ⟨w.heap.size, 2, none⟩ = some (.slice A ss.length c) ∧ W.cell? ⟨b, off + k, none⟩ = some (.slice X zs.length e0) ∧ w.heap.size < W.heap.size) ((first | exact ⟨z0, z1, z2, zr, zl⟩ | exact ⟨y0, y1, y2, yr, yl⟩ | go_keep))
              (((go_at_call 10; refine Calls.mono (CL.out _ ?_ ?_ ?_) ?_; (exact HF.out.ext (K2.out.ext.trans (by repeat (first | exact Ext.refl _ | assumption | refine Ext.alloc ?_ _ | refine Ext.drew ?_ | refine Ext.drewN ?_ _ | (refine Ext.setCell ?_ (by simp <;> omega) _) | refine Ext.trans ?_ (by assumption))))); (exact HLS.out.ext (E2.out.trans (by repeat (first | exact Ext.refl _ | assumption | refine Ext.alloc ?_ _ | refine Ext.drew ?_ | refine Ext.drewN ?_ _ | (refine Ext.setCell ?_ (by simp <;> omega) _) | refine Ext.trans ?_ (by assumption))))); (exact HRW.out.ext (K2.out.ext.trans (by repeat (first | exact Ext.refl _ | assumption | refine Ext.alloc ?_ _ | refine Ext.drew ?_ | refine Ext.drewN ?_ _ | (refine Ext.setCell ?_ (by simp <;> omega) _) | refine Ext.trans ?_ (by assumption))))); rintro e W3 ⟨Y1, cy1, rfl, hS, hb⟩; have K3 := Lib.hid (K2.out.next (Ext.trans (by repeat (first | exact Ext.refl _ | assumption | refine Ext.alloc ?_ _ | refine Ext.drew ?_ | refine Ext.drewN ?_ _ | (refine Ext.setCell ?_ (by simp <;> omega) _) | refine Ext.trans ?_ (by assumption))) hb)); obtain ⟨z0, z1, z2, zl⟩ := K3.out.blk.c3; have zr := K3.out.row hbw c1; have E23 := Lib.hid (show Ext W2 W3 from Ext.trans (by repeat (first | exact Ext.refl _ | assumption | refine Ext.alloc ?_ _ | refine Ext.drew ?_ | refine Ext.drewN ?_ _ | (refine Ext.setCell ?_ (by simp <;> omega) _) | refine Ext.trans ?_ (by assumption))) hb); have E3 := Lib.hid (E2.out.trans E23.out); have HLK := Lib.hid hS.ri; clear hS hb)))
            go_wp2_with (first | (go_at_call 11; refine Calls.mono (CJ.out _ _ _ ?_ ?_ ?_) ?_; (exact HF.out.ext (K3.out.ext.trans (by repeat (first | exact Ext.refl _ | assumption | refine Ext.alloc ?_ _ | refine Ext.drew ?_ | refine Ext.drewN ?_ _ | (refine Ext.setCell ?_ (by simp <;> omega) _) | refine Ext.trans ?_ (by assumption))))); (exact HLS.out.ext (E3.out.trans (by repeat (first | exact Ext.refl _ | assumption | refine Ext.alloc ?_ _ | refine Ext.drew ?_ | refine Ext.drewN ?_ _ | (refine Ext.setCell ?_ (by simp <;> omega) _) | refine Ext.trans ?_ (by assumption))))); (exact HLK.out.ext (by repeat (first | exact Ext.refl _ | assumption | refine Ext.alloc ?_ _ | refine Ext.drew ?_ | refine Ext.drewN ?_ _ | (refine Ext.setCell ?_ (by simp <;> omega) _) | refine Ext.trans ?_ (by assumption)))); rintro e W4 ⟨Y2, cy2, rfl, hS, hb⟩; have K4 := Lib.hid (K3.out.next (Ext.trans (by repeat (first | exact Ext.refl _ | assumption | refine Ext.alloc ?_ _ | refine Ext.drew ?_ | refine Ext.drewN ?_ _ | (refine Ext.setCell ?_ (by simp <;> omega) _) | refine Ext.trans ?_ (by assumption))) hb)); obtain ⟨u0, u1, u2, ul⟩ := K4.out.blk.c3; have ur := K4.out.row hbw c1; have E4 := Lib.hid (E3.out.trans (Ext.trans (by repeat (first | exact Ext.refl _ | assumption | refine Ext.alloc ?_ _ | refine Ext.drew ?_ | refine Ext.drewN ?_ _ | (refine Ext.setCell ?_ (by simp <;> omega) _) | refine Ext.trans ?_ (by assumption))) hb)); have HRI := Lib.hid hS.ri; clear hS hb))
            go_roundw
            case rel => exact ⟨k + 1, B, d, ls, m, tk, by omega, by omega, by go_num, rfl, rfl, HK.out.next (E4.out.trans (by repeat (first | exact Ext.refl _ | assumption | refine Ext.alloc ?_ _ | refine Ext.drew ?_ | refine Ext.drewN ?_ _ | (refine Ext.setCell ?_ (by simp <;> omega) _) | refine Ext.trans ?_ (by assumption))))⟩
            case measure => simp [intOf]; omega
          · have hr := rich_ok HCK.out HIC.out hzs hjb
            rw [hj] at cj
            have ct2 := fun C e W h1 h2 h3 => taken_any ⟨name, body, ss⟩ A c C e X e0 (zipK (· + ·) ls (zipK lacksI ls zs)) zs W h1 h2 h3
            rw [hr] at ct2
            simp only [FT.val] at ct cl cj ct2
            generalize zipK (· - ·) (zipK (· + ·) ls (zipK lacksI ls zs)) zs = n2 at *
            generalize zipK (· + ·) ls (zipK lacksI ls zs) = rl at *
            generalize zipK lacksI ls zs = lk at *
            have CT := Lib.hid ct; have CL := Lib.hid cl; have CJ := Lib.hid cj; have CT2 := Lib.hid ct2
            clear ct cl cj ct2 ht hj hjb hr herr2 hzs hz hkept hlc HBD
            go_wp2
            go_region_held3 (fun W => W.cell? ⟨w.heap.size, 0, none⟩ = some (.string name) ∧ W.cell? ⟨w.heap.size, 1, none⟩ = some (.int .i64 body) ∧ W.cell? ⟨w.heap.size, 2, none⟩ = some (.slice A ss.length c) ∧ W.cell? ⟨b, off + k, none⟩ = some (.slice X zs.length e0) ∧ w.heap.size < W.heap.size) ((first | exact ⟨x0, x1, x2, xr, xl⟩ | exact ⟨q0, q1, q2, qr, ql⟩ | go_keep))
              (((go_at_call 7; refine Calls.mono (CZ.out _ ?_ ?_) ?_; (exact HF.out.ext (K0.out.ext.trans (by repeat (first | exact Ext.refl _ | assumption | refine Ext.alloc ?_ _ | refine Ext.drew ?_ | refine Ext.drewN ?_ _ | (refine Ext.setCell ?_ (by simp <;> omega) _) | refine Ext.trans ?_ (by assumption))))); (exact HRW.out.ext (K0.out.ext.trans (by repeat (first | exact Ext.refl _ | assumption | refine Ext.alloc ?_ _ | refine Ext.drew ?_ | refine Ext.drewN ?_ _ | (refine Ext.setCell ?_ (by simp <;> omega) _) | refine Ext.trans ?_ (by assumption))))); rintro e W1 ⟨rfl, hb⟩; have K1 := Lib.hid (K0.out.next (Ext.trans (by repeat (first | exact Ext.refl _ | assumption | refine Ext.alloc ?_ _ | refine Ext.drew ?_ | refine Ext.drewN ?_ _ | (refine Ext.setCell ?_ (by simp <;> omega) _) | refine Ext.trans ?_ (by assumption))) hb)); obtain ⟨x0, x1, x2, xl⟩ := K1.out.blk.c3; have xr := K1.out.row hbw c1; have E1 := Lib.hid (show Ext wr W1 from Ext.trans (by repeat (first | exact Ext.refl _ | assumption | refine Ext.alloc ?_ _ | refine Ext.drew ?_ | refine Ext.drewN ?_ _ | (refine Ext.setCell ?_ (by simp <;> omega) _) | refine Ext.trans ?_ (by assumption))) hb); clear hb)))
            go_wp2
            go_region_held3 (fun W => W.cell? ⟨w.heap.size, 0, none⟩ = some (.string name) ∧ W.cell? ⟨w.heap.size, 1, none⟩ = some (.int .i64 body) ∧ W.cell? ⟨w.heap.size, 2, none⟩ = some (.slice A ss.length c) ∧ W.cell? ⟨b, off + k, none⟩ = some (.slice X zs.length e0) ∧ w.heap.size < W.heap.size) ((first | exact ⟨y0, y1, y2, yr, yl⟩ | exact ⟨x0, x1, x2, xr, xl⟩ | go_keep))
              (((go_at_call 9; refine Calls.mono (CT.out _ ?_ ?_ ?_) ?_; (exact HF.out.ext (K1.out.ext.trans (by repeat (first | exact Ext.refl _ | assumption | refine Ext.alloc ?_ _ | refine Ext.drew ?_ | refine Ext.drewN ?_ _ | (refine Ext.setCell ?_ (by simp <;> omega) _) | refine Ext.trans ?_ (by assumption))))); (exact HLS.out.ext (E1.out.trans (by repeat (first | exact Ext.refl _ | assumption | refine Ext.alloc ?_ _ | refine Ext.drew ?_ | refine Ext.drewN ?_ _ | (refine Ext.setCell ?_ (by simp <;> omega) _) | refine Ext.trans ?_ (by assumption))))); (exact HRW.out.ext (K1.out.ext.trans (by repeat (first | exact Ext.refl _ | assumption | refine Ext.alloc ?_ _ | refine Ext.drew ?_ | refine Ext.drewN ?_ _ | (refine Ext.setCell ?_ (by simp <;> omega) _) | refine Ext.trans ?_ (by assumption))))); rintro e W2 ⟨Z, cz, rfl, hS, hb⟩; have K2 := Lib.hid (K1.out.next (Ext.trans (by repeat (first | exact Ext.refl _ | assumption | refine Ext.alloc ?_ _ | refine Ext.drew ?_ | refine Ext.drewN ?_ _ | (refine Ext.setCell ?_ (by simp <;> omega) _) | refine Ext.trans ?_ (by assumption))) hb)); obtain ⟨y0, y1, y2, yl⟩ := K2.out.blk.c3; have yr := K2.out.row hbw c1; have E2 := Lib.hid (E1.out.trans (Ext.trans (by repeat (first | exact Ext.refl _ | assumption | refine Ext.alloc ?_ _ | refine Ext.drew ?_ | refine Ext.drewN ?_ _ | (refine Ext.setCell ?_ (by simp <;> omega) _) | refine Ext.trans ?_ (by assumption))) hb)); have HS := Lib.hid hS; clear hS hb)))
            go_wp2
            go_region_held3 (fun W => W.cell? ⟨w.heap.size, 0, none⟩ = some (.string name) ∧ W.cell? ⟨w.heap.size, 1, none⟩ = some (.int .i64 body) ∧ W.cell? ⟨w.heap.size, 2, none⟩ = some (.slice A ss.length c) ∧ W.cell? ⟨b, off + k, none⟩ = some (.slice X zs.length e0) ∧ w.heap.size < W.heap.size) ((first | exact ⟨z0, z1, z2, zr, zl⟩ | exact ⟨y0, y1, y2, yr, yl⟩ | go_keep))
              (((go_at_call 10; refine Calls.mono (CL.out _ ?_ ?_ ?_) ?_; (exact HF.out.ext (K2.out.ext.trans (by repeat (first | exact Ext.refl _ | assumption | refine Ext.alloc ?_ _ | refine Ext.drew ?_ | refine Ext.drewN ?_ _ | (refine Ext.setCell ?_ (by simp <;> omega) _) | refine Ext.trans ?_ (by assumption))))); (exact HLS.out.ext (E2.out.trans (by repeat (first | exact Ext.refl _ | assumption | refine Ext.alloc ?_ _ | refine Ext.drew ?_ | refine Ext.drewN ?_ _ | (refine Ext.setCell ?_ (by simp <;> omega) _) | refine Ext.trans ?_ (by assumption))))); (exact HRW.out.ext (K2.out.ext.trans (by repeat (first | exact Ext.refl _ | assumption | refine Ext.alloc ?_ _ | refine Ext.drew ?_ | refine Ext.drewN ?_ _ | (refine Ext.setCell ?_ (by simp <;> omega) _) | refine Ext.trans ?_ (by assumption))))); rintro e W3 ⟨Y1, cy1, rfl, hS, hb⟩; have K3 := Lib.hid (K2.out.next (Ext.trans (by repeat (first | exact Ext.refl _ | assumption | refine Ext.alloc ?_ _ | refine Ext.drew ?_ | refine Ext.drewN ?_ _ | (refine Ext.setCell ?_ (by simp <;> omega) _) | refine Ext.trans ?_ (by assumption))) hb)); obtain ⟨z0, z1, z2, zl⟩ := K3.out.blk.c3; have zr := K3.out.row hbw c1; have E23 := Lib.hid (show Ext W2 W3 from Ext.trans (by repeat (first | exact Ext.refl _ | assumption | refine Ext.alloc ?_ _ | refine Ext.drew ?_ | refine Ext.drewN ?_ _ | (refine Ext.setCell ?_ (by simp <;> omega) _) | refine Ext.trans ?_ (by assumption))) hb); have E3 := Lib.hid (E2.out.trans E23.out); have HLK := Lib.hid hS.ri; clear hS hb)))
            go_wp2_with (first | (go_at_call 11; refine Calls.mono (CJ.out _ _ _ ?_ ?_ ?_) ?_; (exact HF.out.ext (K3.out.ext.trans (by repeat (first | exact Ext.refl _ | assumption | refine Ext.alloc ?_ _ | refine Ext.drew ?_ | refine Ext.drewN ?_ _ | (refine Ext.setCell ?_ (by simp <;> omega) _) | refine Ext.trans ?_ (by assumption))))); (exact HLS.out.ext (E3.out.trans (by repeat (first | exact Ext.refl _ | assumption | refine Ext.alloc ?_ _ | refine Ext.drew ?_ | refine Ext.drewN ?_ _ | (refine Ext.setCell ?_ (by simp <;> omega) _) | refine Ext.trans ?_ (by assumption))))); (exact HLK.out.ext (by repeat (first | exact Ext.refl _ | assumption | refine Ext.alloc ?_ _ | refine Ext.drew ?_ | refine Ext.drewN ?_ _ | (refine Ext.setCell ?_ (by simp <;> omega) _) | refine Ext.trans ?_ (by assumption)))); rintro e W4 ⟨Y2, cy2, rfl, hS, hb⟩; have K4 := Lib.hid (K3.out.next (Ext.trans (by repeat (first | exact Ext.refl _ | assumption | refine Ext.alloc ?_ _ | refine Ext.drew ?_ | refine Ext.drewN ?_ _ | (refine Ext.setCell ?_ (by simp <;> omega) _) | refine Ext.trans ?_ (by assumption))) hb)); obtain ⟨u0, u1, u2, ul⟩ := K4.out.blk.c3; have ur := K4.out.row hbw c1; have E4 := Lib.hid (E3.out.trans (Ext.trans (by repeat (first | exact Ext.refl _ | assumption | refine Ext.alloc ?_ _ | refine Ext.drew ?_ | refine Ext.drewN ?_ _ | (refine Ext.setCell ?_ (by simp <;> omega) _) | refine Ext.trans ?_ (by assumption))) hb)); have HRI := Lib.hid hS.ri; clear hS hb))
            go_region_held3 (fun W => W.cell? ⟨w.heap.size, 0, none⟩ = some (.string name) ∧ W.cell? ⟨w.heap.size, 1, none⟩ = some (.int .i64 body) ∧ W.cell? ⟨w.heap.size, 2, none⟩ = some (.slice A ss.length c) ∧ W.cell? ⟨b, off + k, none⟩ = some (.slice X zs.length e0) ∧ w.heap.size < W.heap.size) ((first | exact ⟨v0, v1, v2, vr, vl⟩ | exact ⟨u0, u1, u2, ur, ul⟩ | go_keep))
              (((go_at_call 9; refine Calls.mono (CT2.out _ _ _ ?_ ?_ ?_) ?_; (exact HF.out.ext (K4.out.ext.trans (by repeat (first | exact Ext.refl _ | assumption | refine Ext.alloc ?_ _ | refine Ext.drew ?_ | refine Ext.drewN ?_ _ | (refine Ext.setCell ?_ (by simp <;> omega) _) | refine Ext.trans ?_ (by assumption))))); (exact HRI.out.ext (by repeat (first | exact Ext.refl _ | assumption | refine Ext.alloc ?_ _ | refine Ext.drew ?_ | refine Ext.drewN ?_ _ | (refine Ext.setCell ?_ (by simp <;> omega) _) | refine Ext.trans ?_ (by assumption)))); (exact HRW.out.ext (K4.out.ext.trans (by repeat (first | exact Ext.refl _ | assumption | refine Ext.alloc ?_ _ | refine Ext.drew ?_ | refine Ext.drewN ?_ _ | (refine Ext.setCell ?_ (by simp <;> omega) _) | refine Ext.trans ?_ (by assumption))))); rintro e W5 ⟨Y3, cy3, rfl, hS, hb⟩; have E5 := Lib.hid (E4.out.trans (Ext.trans (by repeat (first | exact Ext.refl _ | assumption | refine Ext.alloc ?_ _ | refine Ext.drew ?_ | refine Ext.drewN ?_ _ | (refine Ext.setCell ?_ (by simp <;> omega) _) | refine Ext.trans ?_ (by assumption))) hb)); have K5 := Lib.hid (K4.out.next (Ext.trans (by repeat (first | exact Ext.refl _ | assumption | refine Ext.alloc ?_ _ | refine Ext.drew ?_ | refine Ext.drewN ?_ _ | (refine Ext.setCell ?_ (by simp <;> omega) _) | refine Ext.trans ?_ (by assumption))) hb)); obtain ⟨v0, v1, v2, vl⟩ := K5.out.blk.c3; have vr := K5.out.row hbw c1; clear hS hb)))
            go_wp2
            go_roundw
            case rel => exact ⟨k + 1, B, d, ls, m, tk, by omega, by omega, by go_num, rfl, rfl, HK.out.next (E5.out.trans (by repeat (first | exact Ext.refl _ | assumption | refine Ext.alloc ?_ _ | refine Ext.drew ?_ | refine Ext.drewN ?_ _ | (refine Ext.setCell ?_ (by simp <;> omega) _) | refine Ext.trans ?_ (by assumption))))⟩
            case measure => simp [intOf]; omega
      case neg =>
        obtain rfl : k = rows.length := by omega
        obtain ⟨TA, ct, rfl, htl⟩ := hkept.own.form HTL.out (fun s hs => (hkept.rows s hs).ext K0.out.ext)
        have HRT := Lib.hid htl; clear htl
        have HGD := Lib.hid hkept.inv.good
        have HBK := Lib.hid hkept.inv.back
        have hmet := hkept.inv.met
        have cm1 := fun W h1 h2 => metalOf_any ⟨name, body, ss⟩ A c B d ls W h1 h2
        have cm2 := fun W h1 h2 => metalOf_any ⟨name, body, ss⟩ A c X0 cx xs W h1 h2
        rw [metalOfV_ok (case_of HCK.out HIC.out)] at cm1
        rw [metalOfV_ok HMX.out, ← hmet] at cm2
        simp only [FT.val] at cm1 cm2
        generalize metalR ⟨name, body, ss⟩ ls = ml at *
        have CM1 := Lib.hid cm1; have CM2 := Lib.hid cm2
        clear cm1 cm2 hmet hkept
        obtain ⟨hm3, hm4, hm5, hm6⟩ := HBD
        go_wp2_with (first | (go_at_call 12; have hq1 := K1; clear hq1; refine Calls.mono (CM2.out _ ?_ ?_) ?_; (exact HF.out.ext (K1.out.ext.trans (by repeat (first | exact Ext.refl _ | assumption | refine Ext.alloc ?_ _ | refine Ext.drew ?_ | refine Ext.drewN ?_ _ | (refine Ext.setCell ?_ (by simp <;> omega) _) | refine Ext.trans ?_ (by assumption))))); (exact HX.out.ext (K1.out.ext.trans (by repeat (first | exact Ext.refl _ | assumption | refine Ext.alloc ?_ _ | refine Ext.drew ?_ | refine Ext.drewN ?_ _ | (refine Ext.setCell ?_ (by simp <;> omega) _) | refine Ext.trans ?_ (by assumption))))); rintro e W2 ⟨rfl, hb⟩; have K2 := Lib.hid (K1.out.next (Ext.trans (by repeat (first | exact Ext.refl _ | assumption | refine Ext.alloc ?_ _ | refine Ext.drew ?_ | refine Ext.drewN ?_ _ | (refine Ext.setCell ?_ (by simp <;> omega) _) | refine Ext.trans ?_ (by assumption))) hb)); have E2 := Lib.hid (E1.out.trans (Ext.trans (by repeat (first | exact Ext.refl _ | assumption | refine Ext.alloc ?_ _ | refine Ext.drew ?_ | refine Ext.drewN ?_ _ | (refine Ext.setCell ?_ (by simp <;> omega) _) | refine Ext.trans ?_ (by assumption))) hb)); obtain ⟨y0, y1, y2, yl⟩ := K2.out.blk.c3; clear hb) | (go_at_call 12; refine Calls.mono (CM1.out _ ?_ ?_) ?_; (exact HF.out.ext (K0.out.ext.trans (by repeat (first | exact Ext.refl _ | assumption | refine Ext.alloc ?_ _ | refine Ext.drew ?_ | refine Ext.drewN ?_ _ | (refine Ext.setCell ?_ (by simp <;> omega) _) | refine Ext.trans ?_ (by assumption))))); (exact HLS.out.ext (by repeat (first | exact Ext.refl _ | assumption | refine Ext.alloc ?_ _ | refine Ext.drew ?_ | refine Ext.drewN ?_ _ | (refine Ext.setCell ?_ (by simp <;> omega) _) | refine Ext.trans ?_ (by assumption)))); rintro e W1 ⟨rfl, hb⟩; have K1 := Lib.hid (K0.out.next (Ext.trans (by repeat (first | exact Ext.refl _ | assumption | refine Ext.alloc ?_ _ | refine Ext.drew ?_ | refine Ext.drewN ?_ _ | (refine Ext.setCell ?_ (by simp <;> omega) _) | refine Ext.trans ?_ (by assumption))) hb)); have E1 := Lib.hid (show Ext wr W1 from Ext.trans (by repeat (first | exact Ext.refl _ | assumption | refine Ext.alloc ?_ _ | refine Ext.drew ?_ | refine Ext.drewN ?_ _ | (refine Ext.setCell ?_ (by simp <;> omega) _) | refine Ext.trans ?_ (by assumption))) hb); obtain ⟨x0, x1, x2, xl⟩ := K1.out.blk.c3; clear hb))
        go_loopw [7, 24] (fun L I v => ∃ (j : Nat) (B : Option Addr) (d : Nat) (ls : List Int), j ≤ tk.length ∧ I = .int .i64 ((j : Int) - 1) ∧ L = .slice B ls.length d ∧ Back w ⟨name, body, ss⟩ A c xs TA tk v B ls j) (fun _ I _ => (intOf I + 1).toNat)
        case atStart => exact ⟨tk.length, B, d, ls, Nat.le_refl _, rfl, rfl, K2.out.next (by repeat (first | exact Ext.refl _ | assumption | refine Ext.alloc ?_ _ | refine Ext.drew ?_ | refine Ext.drewN ?_ _ | (refine Ext.setCell ?_ (by simp <;> omega) _) | refine Ext.trans ?_ (by assumption))), HLS.out.ext (E2.out.trans (by repeat (first | exact Ext.refl _ | assumption | refine Ext.alloc ?_ _ | refine Ext.drew ?_ | refine Ext.drewN ?_ _ | (refine Ext.setCell ?_ (by simp <;> omega) _) | refine Ext.trans ?_ (by assumption)))), HRT.out.ext (E2.out.trans (by repeat (first | exact Ext.refl _ | assumption | refine Ext.alloc ?_ _ | refine Ext.drew ?_ | refine Ext.drewN ?_ _ | (refine Ext.setCell ?_ (by simp <;> omega) _) | refine Ext.trans ?_ (by assumption)))), HBK.out⟩
        case round => 
          clear HLS HBK K0 K1 K2 E1 E2 CM1 CM2 x0 x1 x2 xl y0 y1 y2 yl q0 q1 q2 ql HIC HRT
          obtain ⟨j, B', d', l2, hj, rfl, rfl, hback⟩ := hrel
          have J0 : Hid (Here w name body A ss.length c wr) := Lib.hid hback.here
          have HLS := Lib.hid hback.left
          obtain ⟨q0, q1, q2, ql⟩ := J0.out.blk.c3
          cases j with
          | zero =>
            have ci := fun W h1 h2 => ints_any B' X0 d' cx l2 xs W h1 h2
            rw [hback.inv.done HXC.out] at HLS ci ⊢
            rw [decide_eq_true rfl] at ci
            have CI := Lib.hid ci; clear ci hback
            rw [show (((0 : Nat) : Int) - 1) = -1 by rfl]
            go_wp2_with (first | (go_at_call 13; refine Calls.mono (CI.out _ ?_ ?_) ?_; (exact HLS.out.ext (by repeat (first | exact Ext.refl _ | assumption | refine Ext.alloc ?_ _ | refine Ext.drew ?_ | refine Ext.drewN ?_ _ | (refine Ext.setCell ?_ (by simp <;> omega) _) | refine Ext.trans ?_ (by assumption)))); (exact HX.out.ext (J0.out.ext.trans (by repeat (first | exact Ext.refl _ | assumption | refine Ext.alloc ?_ _ | refine Ext.drew ?_ | refine Ext.drewN ?_ _ | (refine Ext.setCell ?_ (by simp <;> omega) _) | refine Ext.trans ?_ (by assumption))))); rintro e V1 ⟨rfl, hb⟩))
            go_ret
            exact Ret.mk' rfl (J0.out.ext.trans (Ext.trans (by repeat (first | exact Ext.refl _ | assumption | refine Ext.alloc ?_ _ | refine Ext.drew ?_ | refine Ext.drewN ?_ _ | (refine Ext.setCell ?_ (by simp <;> omega) _) | refine Ext.trans ?_ (by assumption))) hb))
          | succ i =>
            have hi : i < tk.length := by omega
            obtain ⟨hjn, hbn⟩ := hback.inv.join hi HCK.out HXC.out HGD.out
            obtain ⟨b, off, rfl, hbw, hcell⟩ := hback.tak.2.2.1 (by omega)
            have hrow := hback.tak.2.2.2 i hi
            have c1 := hcell i hi
            have HTK := Lib.hid hback.tak
            clear hcell
            have cj := fun W h1 h2 h3 => joined_any ⟨name, body, ss⟩ A c B' d' (tk.getD i SI.none_).A (tk.getD i SI.none_).c l2 (tk.getD i SI.none_).zs W h1 h2 h3
            rw [hjn] at cj
            have HBN := Lib.hid hbn
            clear hjn hbn hback
            generalize tk.getD i SI.none_ = s at *
            obtain ⟨X, e0, zs⟩ := s
            simp only [SI.val, FT.val] at *
            generalize zipK (· + ·) l2 zs = nz at *
            have HRW := Lib.hid hrow; have CJ := Lib.hid cj; clear hrow cj
            have qr := c1
            have hii : (i : Int) < (tk.length : Int) := by omega
            rw [show (((i + 1 : Nat) : Int) - 1) = (i : Int) by omega]
            go_wp2
            go_region_held3 (fun W => W.cell? ⟨w.heap.size, 0, none⟩ = some (.string name) ∧ W.cell? ⟨w.heap.size, 1, none⟩ = some (.int .i64 body) ∧ W.cell? ⟨w.heap.size, 2, none⟩ = some (.slice A ss.length c) ∧ W.cell? ⟨b, off + i, none⟩ = some (.slice X zs.length e0) ∧ w.heap.size < W.heap.size) ((first | exact ⟨x0, x1, x2, xr, xl⟩ | exact ⟨q0, q1, q2, qr, ql⟩ | go_keep))
              (((go_at_call 11; refine Calls.mono (CJ.out _ ?_ ?_ ?_) ?_; (exact HF.out.ext (J0.out.ext.trans (by repeat (first | exact Ext.refl _ | assumption | refine Ext.alloc ?_ _ | refine Ext.drew ?_ | refine Ext.drewN ?_ _ | (refine Ext.setCell ?_ (by simp <;> omega) _) | refine Ext.trans ?_ (by assumption))))); (exact HLS.out.ext (by repeat (first | exact Ext.refl _ | assumption | refine Ext.alloc ?_ _ | refine Ext.drew ?_ | refine Ext.drewN ?_ _ | (refine Ext.setCell ?_ (by simp <;> omega) _) | refine Ext.trans ?_ (by assumption)))); (exact HRW.out.ext (by repeat (first | exact Ext.refl _ | assumption | refine Ext.alloc ?_ _ | refine Ext.drew ?_ | refine Ext.drewN ?_ _ | (refine Ext.setCell ?_ (by simp <;> omega) _) | refine Ext.trans ?_ (by assumption)))); rintro e V1 ⟨Z, cz, rfl, hS, hb⟩; have J1 := Lib.hid (J0.out.next (Ext.trans (by repeat (first | exact Ext.refl _ | assumption | refine Ext.alloc ?_ _ | refine Ext.drew ?_ | refine Ext.drewN ?_ _ | (refine Ext.setCell ?_ (by simp <;> omega) _) | refine Ext.trans ?_ (by assumption))) hb)); have EV := Lib.hid (show Ext wr V1 from Ext.trans (by repeat (first | exact Ext.refl _ | assumption | refine Ext.alloc ?_ _ | refine Ext.drew ?_ | refine Ext.drewN ?_ _ | (refine Ext.setCell ?_ (by simp <;> omega) _) | refine Ext.trans ?_ (by assumption))) hb); have HNZ := Lib.hid hS.ri; obtain ⟨x0, x1, x2, xl⟩ := J1.out.blk.c3; have xr := (EV.out.cell (p := ⟨b, off + i, none⟩) hbw).trans c1; clear hS hb)))
            go_wp2
            go_roundw
            case rel => exact ⟨i, Z, cz, nz, by omega, rfl, rfl, J1.out.next (by repeat (first | exact Ext.refl _ | assumption | refine Ext.alloc ?_ _ | refine Ext.drew ?_ | refine Ext.drewN ?_ _ | (refine Ext.setCell ?_ (by simp <;> omega) _) | refine Ext.trans ?_ (by assumption))), HNZ.out.ext (by repeat (first | exact Ext.refl _ | assumption | refine Ext.alloc ?_ _ | refine Ext.drew ?_ | refine Ext.drewN ?_ _ | (refine Ext.setCell ?_ (by simp <;> omega) _) | refine Ext.trans ?_ (by assumption))), HTK.out.ext (EV.out.trans (by repeat (first | exact Ext.refl _ | assumption | refine Ext.alloc ?_ _ | refine Ext.drew ?_ | refine Ext.drewN ?_ _ | (refine Ext.setCell ?_ (by simp <;> omega) _) | refine Ext.trans ?_ (by assumption)))), HBN.out⟩
            case measure => simp [intOf]
end Go.Proofs.Ytphkffndhifdkaa.parted
