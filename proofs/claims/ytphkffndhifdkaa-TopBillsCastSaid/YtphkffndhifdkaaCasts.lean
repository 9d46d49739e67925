/-
  Walk: TopBillsCast returns true.
-/
import Derived.Test.YtphkffndhifdkaaCastsLaw
import Derived.Test.YtphkffndhifdkaaPartedLib
import Derived.Test.YtphkffndhifdkaaMake
namespace Go.Proofs.Ytphkffndhifdkaa.casts
open Go.RowKit parted
theorem few_ten {f : FT} {ns : List Int} (hfw : fewB f = true) (hc : caseErr f ns = 0) : ns.length ≤ 10 := by
  obtain ⟨_, h1, _⟩ := fewB_true.1 hfw
  obtain ⟨h2, h3⟩ := case_zero hc
  obtain ⟨_, _, h4, _⟩ := chk_zero h2
  obtain ⟨h5, _⟩ := counts_zero h3
  omega
set_option maxRecDepth 100000 in
set_option maxHeartbeats 8000000 in
theorem walk (f : FT) (A : Option Addr) (c : Nat) (X0 : Option Addr) (cx : Nat) (ns : List Int) (size metal : Int) (w : World) (hf : FR w A c f) (hx : RI w X0 ns.length ns) (hmi : I64 metal) (hsi : I64 size) :
    Calls Try.prog 4 #[f.val A c, .slice X0 ns.length cx, .agg #[.int .i64 size, .int .i64 metal]] w (Ret (.bool true) w) := by
  have cFew := fun W h => few_any f A c W h
  have cChk := fun W h1 h2 => rCheckCase_any f A c X0 cx ns W h1 h2
  have HF := Lib.hid hf; have HX := Lib.hid hx; clear hf hx
  unfold I64 at hmi hsi
  obtain ⟨hm1, hm2⟩ := hmi
  obtain ⟨hs1, hs2⟩ := hsi
  cases hfw : fewB f with
  | false =>
    rw [hfw] at cFew
    obtain ⟨name, body, ss⟩ := f
    simp only [FT.val] at *
    have CF := Lib.hid cFew; clear cFew cChk hfw
    go_enter Try.func4, Try.ntmps4
    go_wp2_with (first | (go_at_call 5; refine Calls.mono (topCast_any _) ?_; rintro e w1 ⟨rfl, hb⟩; have H1 := Lib.hid (Here.start (name := name) (body := body) (A := A) (n := ss.length) (c := c) w (Ext.trans (by repeat (first | exact Ext.refl _ | assumption | refine Ext.alloc ?_ _ | refine Ext.drew ?_ | refine Ext.drewN ?_ _ | (refine Ext.setCell ?_ (by simp <;> omega) _) | refine Ext.trans ?_ (by assumption))) hb)); obtain ⟨a0, a1, a2, al⟩ := H1.out.blk.c3; obtain ⟨x0, x1, _, _, xl⟩ := ((Blk.new1 _ _ _ _).ext hb).c2; clear hb))
    go_quiet (fail)
    go_wp2_with (first | (go_at_call 6; refine Calls.mono (CF.out _ ?_) ?_; (exact HF.out.ext (H1.out.ext.trans (by repeat (first | exact Ext.refl _ | assumption | refine Ext.alloc ?_ _ | refine Ext.drew ?_ | refine Ext.drewN ?_ _ | (refine Ext.setCell ?_ (by simp <;> omega) _) | refine Ext.trans ?_ (by assumption))))); rintro e w2 ⟨rfl, hb⟩; have H2 := Lib.hid (H1.out.next (Ext.trans (by repeat (first | exact Ext.refl _ | assumption | refine Ext.alloc ?_ _ | refine Ext.drew ?_ | refine Ext.drewN ?_ _ | (refine Ext.setCell ?_ (by simp <;> omega) _) | refine Ext.trans ?_ (by assumption))) hb)); obtain ⟨u0, u1, u2, ul⟩ := H2.out.blk.c3; clear hb))
    go_ret
    exact Ret.mk' rfl (H2.out.ext.trans (by repeat (first | exact Ext.refl _ | assumption | refine Ext.alloc ?_ _ | refine Ext.drew ?_ | refine Ext.drewN ?_ _ | (refine Ext.setCell ?_ (by simp <;> omega) _) | refine Ext.trans ?_ (by assumption))))
  | true =>
    rw [hfw] at cFew
    by_cases hce : caseErr f ns = 0
    case neg =>
      generalize caseErr f ns = ce at *
      have e1 : (ce != 0) = true := by simpa using hce
      obtain ⟨name, body, ss⟩ := f
      simp only [FT.val] at *
      have CF := Lib.hid cFew; have CC := Lib.hid cChk; clear cFew cChk hce hfw
      go_enter Try.func4, Try.ntmps4
      go_wp2_with (first | (go_at_call 5; refine Calls.mono (topCast_any _) ?_; rintro e w1 ⟨rfl, hb⟩; have H1 := Lib.hid (Here.start (name := name) (body := body) (A := A) (n := ss.length) (c := c) w (Ext.trans (by repeat (first | exact Ext.refl _ | assumption | refine Ext.alloc ?_ _ | refine Ext.drew ?_ | refine Ext.drewN ?_ _ | (refine Ext.setCell ?_ (by simp <;> omega) _) | refine Ext.trans ?_ (by assumption))) hb)); obtain ⟨a0, a1, a2, al⟩ := H1.out.blk.c3; obtain ⟨x0, x1, _, _, xl⟩ := ((Blk.new1 _ _ _ _).ext hb).c2; clear hb))
      go_quiet (fail)
      go_wp2_with (first | (go_at_call 6; refine Calls.mono (CF.out _ ?_) ?_; (exact HF.out.ext (H1.out.ext.trans (by repeat (first | exact Ext.refl _ | assumption | refine Ext.alloc ?_ _ | refine Ext.drew ?_ | refine Ext.drewN ?_ _ | (refine Ext.setCell ?_ (by simp <;> omega) _) | refine Ext.trans ?_ (by assumption))))); rintro e w2 ⟨rfl, hb⟩; have H2 := Lib.hid (H1.out.next (Ext.trans (by repeat (first | exact Ext.refl _ | assumption | refine Ext.alloc ?_ _ | refine Ext.drew ?_ | refine Ext.drewN ?_ _ | (refine Ext.setCell ?_ (by simp <;> omega) _) | refine Ext.trans ?_ (by assumption))) hb)); obtain ⟨u0, u1, u2, ul⟩ := H2.out.blk.c3; clear hb) | (go_at_call 7; refine Calls.mono (CC.out _ ?_ ?_) ?_; (exact HF.out.ext (H2.out.ext.trans (by repeat (first | exact Ext.refl _ | assumption | refine Ext.alloc ?_ _ | refine Ext.drew ?_ | refine Ext.drewN ?_ _ | (refine Ext.setCell ?_ (by simp <;> omega) _) | refine Ext.trans ?_ (by assumption))))); (exact HX.out.ext (H2.out.ext.trans (by repeat (first | exact Ext.refl _ | assumption | refine Ext.alloc ?_ _ | refine Ext.drew ?_ | refine Ext.drewN ?_ _ | (refine Ext.setCell ?_ (by simp <;> omega) _) | refine Ext.trans ?_ (by assumption))))); rintro e w3 ⟨rfl, hb⟩; have H3 := Lib.hid (H2.out.next (Ext.trans (by repeat (first | exact Ext.refl _ | assumption | refine Ext.alloc ?_ _ | refine Ext.drew ?_ | refine Ext.drewN ?_ _ | (refine Ext.setCell ?_ (by simp <;> omega) _) | refine Ext.trans ?_ (by assumption))) hb)); obtain ⟨d0, d1, d2, dl⟩ := H3.out.blk.c3; clear hb))
      go_ret
      exact Ret.mk' rfl (H3.out.ext.trans (by repeat (first | exact Ext.refl _ | assumption | refine Ext.alloc ?_ _ | refine Ext.drew ?_ | refine Ext.drewN ?_ _ | (refine Ext.setCell ?_ (by simp <;> omega) _) | refine Ext.trans ?_ (by assumption))))
    case pos =>
    rw [hce] at cChk
    have hn10 := few_ten hfw hce
    have HCE := Lib.hid hce
    clear hfw
    have cB := fun W h1 h2 => billFor_any f A c X0 cx ns size W h1 h2 (fun _ => by omega)
    by_cases hsz : 1 ≤ size ∧ size ≤ 1000
    case neg =>
      obtain ⟨name, body, ss⟩ := f
      simp only [FT.val] at *
      have CF := Lib.hid cFew; have CC := Lib.hid cChk; clear cFew cChk hce cB
      go_enter Try.func4, Try.ntmps4
      go_wp2_with (first | (go_at_call 5; refine Calls.mono (topCast_any _) ?_; rintro e w1 ⟨rfl, hb⟩; have H1 := Lib.hid (Here.start (name := name) (body := body) (A := A) (n := ss.length) (c := c) w (Ext.trans (by repeat (first | exact Ext.refl _ | assumption | refine Ext.alloc ?_ _ | refine Ext.drew ?_ | refine Ext.drewN ?_ _ | (refine Ext.setCell ?_ (by simp <;> omega) _) | refine Ext.trans ?_ (by assumption))) hb)); obtain ⟨a0, a1, a2, al⟩ := H1.out.blk.c3; obtain ⟨x0, x1, _, _, xl⟩ := ((Blk.new1 _ _ _ _).ext hb).c2; clear hb))
      go_quiet (fail)
      go_wp2_with (first | (go_at_call 6; refine Calls.mono (CF.out _ ?_) ?_; (exact HF.out.ext (H1.out.ext.trans (by repeat (first | exact Ext.refl _ | assumption | refine Ext.alloc ?_ _ | refine Ext.drew ?_ | refine Ext.drewN ?_ _ | (refine Ext.setCell ?_ (by simp <;> omega) _) | refine Ext.trans ?_ (by assumption))))); rintro e w2 ⟨rfl, hb⟩; have H2 := Lib.hid (H1.out.next (Ext.trans (by repeat (first | exact Ext.refl _ | assumption | refine Ext.alloc ?_ _ | refine Ext.drew ?_ | refine Ext.drewN ?_ _ | (refine Ext.setCell ?_ (by simp <;> omega) _) | refine Ext.trans ?_ (by assumption))) hb)); obtain ⟨u0, u1, u2, ul⟩ := H2.out.blk.c3; clear hb) | (go_at_call 7; refine Calls.mono (CC.out _ ?_ ?_) ?_; (exact HF.out.ext (H2.out.ext.trans (by repeat (first | exact Ext.refl _ | assumption | refine Ext.alloc ?_ _ | refine Ext.drew ?_ | refine Ext.drewN ?_ _ | (refine Ext.setCell ?_ (by simp <;> omega) _) | refine Ext.trans ?_ (by assumption))))); (exact HX.out.ext (H2.out.ext.trans (by repeat (first | exact Ext.refl _ | assumption | refine Ext.alloc ?_ _ | refine Ext.drew ?_ | refine Ext.drewN ?_ _ | (refine Ext.setCell ?_ (by simp <;> omega) _) | refine Ext.trans ?_ (by assumption))))); rintro e w3 ⟨rfl, hb⟩; have H3 := Lib.hid (H2.out.next (Ext.trans (by repeat (first | exact Ext.refl _ | assumption | refine Ext.alloc ?_ _ | refine Ext.drew ?_ | refine Ext.drewN ?_ _ | (refine Ext.setCell ?_ (by simp <;> omega) _) | refine Ext.trans ?_ (by assumption))) hb)); obtain ⟨d0, d1, d2, dl⟩ := H3.out.blk.c3; clear hb) | (go_at_call 14; refine Calls.mono (bWithin_yes _ _ _ _ ?_) ?_; (omega); rintro e w1 ⟨rfl, rfl⟩) | (go_at_call 14; refine Calls.mono (bWithin_no _ _ _ _ ?_) ?_; (omega); rintro e w1 ⟨rfl, rfl⟩))
      go_ret
      exact Ret.mk' rfl (H3.out.ext.trans (by repeat (first | exact Ext.refl _ | assumption | refine Ext.alloc ?_ _ | refine Ext.drew ?_ | refine Ext.drewN ?_ _ | (refine Ext.setCell ?_ (by simp <;> omega) _) | refine Ext.trans ?_ (by assumption))))
    case pos =>
    obtain ⟨hz1, hz2⟩ := hsz
    by_cases hmt : 0 ≤ metal ∧ metal ≤ 1000000000000000
    case neg =>
      obtain ⟨name, body, ss⟩ := f
      simp only [FT.val] at *
      have CF := Lib.hid cFew; have CC := Lib.hid cChk; clear cFew cChk hce cB
      go_enter Try.func4, Try.ntmps4
      go_wp2_with (first | (go_at_call 5; refine Calls.mono (topCast_any _) ?_; rintro e w1 ⟨rfl, hb⟩; have H1 := Lib.hid (Here.start (name := name) (body := body) (A := A) (n := ss.length) (c := c) w (Ext.trans (by repeat (first | exact Ext.refl _ | assumption | refine Ext.alloc ?_ _ | refine Ext.drew ?_ | refine Ext.drewN ?_ _ | (refine Ext.setCell ?_ (by simp <;> omega) _) | refine Ext.trans ?_ (by assumption))) hb)); obtain ⟨a0, a1, a2, al⟩ := H1.out.blk.c3; obtain ⟨x0, x1, _, _, xl⟩ := ((Blk.new1 _ _ _ _).ext hb).c2; clear hb))
      go_quiet (fail)
      go_wp2_with (first | (go_at_call 6; refine Calls.mono (CF.out _ ?_) ?_; (exact HF.out.ext (H1.out.ext.trans (by repeat (first | exact Ext.refl _ | assumption | refine Ext.alloc ?_ _ | refine Ext.drew ?_ | refine Ext.drewN ?_ _ | (refine Ext.setCell ?_ (by simp <;> omega) _) | refine Ext.trans ?_ (by assumption))))); rintro e w2 ⟨rfl, hb⟩; have H2 := Lib.hid (H1.out.next (Ext.trans (by repeat (first | exact Ext.refl _ | assumption | refine Ext.alloc ?_ _ | refine Ext.drew ?_ | refine Ext.drewN ?_ _ | (refine Ext.setCell ?_ (by simp <;> omega) _) | refine Ext.trans ?_ (by assumption))) hb)); obtain ⟨u0, u1, u2, ul⟩ := H2.out.blk.c3; clear hb) | (go_at_call 7; refine Calls.mono (CC.out _ ?_ ?_) ?_; (exact HF.out.ext (H2.out.ext.trans (by repeat (first | exact Ext.refl _ | assumption | refine Ext.alloc ?_ _ | refine Ext.drew ?_ | refine Ext.drewN ?_ _ | (refine Ext.setCell ?_ (by simp <;> omega) _) | refine Ext.trans ?_ (by assumption))))); (exact HX.out.ext (H2.out.ext.trans (by repeat (first | exact Ext.refl _ | assumption | refine Ext.alloc ?_ _ | refine Ext.drew ?_ | refine Ext.drewN ?_ _ | (refine Ext.setCell ?_ (by simp <;> omega) _) | refine Ext.trans ?_ (by assumption))))); rintro e w3 ⟨rfl, hb⟩; have H3 := Lib.hid (H2.out.next (Ext.trans (by repeat (first | exact Ext.refl _ | assumption | refine Ext.alloc ?_ _ | refine Ext.drew ?_ | refine Ext.drewN ?_ _ | (refine Ext.setCell ?_ (by simp <;> omega) _) | refine Ext.trans ?_ (by assumption))) hb)); obtain ⟨d0, d1, d2, dl⟩ := H3.out.blk.c3; clear hb) | (go_at_call 14; refine Calls.mono (bWithin_yes _ _ _ _ ?_) ?_; (omega); rintro e w1 ⟨rfl, rfl⟩) | (go_at_call 14; refine Calls.mono (bWithin_no _ _ _ _ ?_) ?_; (omega); rintro e w1 ⟨rfl, rfl⟩))
      go_ret
      exact Ret.mk' rfl (H3.out.ext.trans (by repeat (first | exact Ext.refl _ | assumption | refine Ext.alloc ?_ _ | refine Ext.drew ?_ | refine Ext.drewN ?_ _ | (refine Ext.setCell ?_ (by simp <;> omega) _) | refine Ext.trans ?_ (by assumption))))
    case pos =>
    obtain ⟨ht1, ht2⟩ := hmt
    by_cases hsum : sumZ ns ns.length = 0
    case pos =>
      have hbr : billR f ns size = ([], 11) := by unfold billR; rw [if_neg (by rw [hce]; simp), if_neg (by simp; omega), if_pos hsum]
      rw [hbr] at cB
      obtain ⟨name, body, ss⟩ := f
      simp only [FT.val] at *
      have CF := Lib.hid cFew; have CC := Lib.hid cChk; have CB := Lib.hid cB; clear cFew cChk hce cB hbr hsum
      go_enter Try.func4, Try.ntmps4
      go_wp2_with (first | (go_at_call 5; refine Calls.mono (topCast_any _) ?_; rintro e w1 ⟨rfl, hb⟩; have H1 := Lib.hid (Here.start (name := name) (body := body) (A := A) (n := ss.length) (c := c) w (Ext.trans (by repeat (first | exact Ext.refl _ | assumption | refine Ext.alloc ?_ _ | refine Ext.drew ?_ | refine Ext.drewN ?_ _ | (refine Ext.setCell ?_ (by simp <;> omega) _) | refine Ext.trans ?_ (by assumption))) hb)); obtain ⟨a0, a1, a2, al⟩ := H1.out.blk.c3; obtain ⟨x0, x1, _, _, xl⟩ := ((Blk.new1 _ _ _ _).ext hb).c2; clear hb))
      go_quiet (fail)
      go_wp2_with (first | (go_at_call 6; refine Calls.mono (CF.out _ ?_) ?_; (exact HF.out.ext (H1.out.ext.trans (by repeat (first | exact Ext.refl _ | assumption | refine Ext.alloc ?_ _ | refine Ext.drew ?_ | refine Ext.drewN ?_ _ | (refine Ext.setCell ?_ (by simp <;> omega) _) | refine Ext.trans ?_ (by assumption))))); rintro e w2 ⟨rfl, hb⟩; have H2 := Lib.hid (H1.out.next (Ext.trans (by repeat (first | exact Ext.refl _ | assumption | refine Ext.alloc ?_ _ | refine Ext.drew ?_ | refine Ext.drewN ?_ _ | (refine Ext.setCell ?_ (by simp <;> omega) _) | refine Ext.trans ?_ (by assumption))) hb)); obtain ⟨u0, u1, u2, ul⟩ := H2.out.blk.c3; clear hb) | (go_at_call 7; refine Calls.mono (CC.out _ ?_ ?_) ?_; (exact HF.out.ext (H2.out.ext.trans (by repeat (first | exact Ext.refl _ | assumption | refine Ext.alloc ?_ _ | refine Ext.drew ?_ | refine Ext.drewN ?_ _ | (refine Ext.setCell ?_ (by simp <;> omega) _) | refine Ext.trans ?_ (by assumption))))); (exact HX.out.ext (H2.out.ext.trans (by repeat (first | exact Ext.refl _ | assumption | refine Ext.alloc ?_ _ | refine Ext.drew ?_ | refine Ext.drewN ?_ _ | (refine Ext.setCell ?_ (by simp <;> omega) _) | refine Ext.trans ?_ (by assumption))))); rintro e w3 ⟨rfl, hb⟩; have H3 := Lib.hid (H2.out.next (Ext.trans (by repeat (first | exact Ext.refl _ | assumption | refine Ext.alloc ?_ _ | refine Ext.drew ?_ | refine Ext.drewN ?_ _ | (refine Ext.setCell ?_ (by simp <;> omega) _) | refine Ext.trans ?_ (by assumption))) hb)); obtain ⟨d0, d1, d2, dl⟩ := H3.out.blk.c3; clear hb) | (go_at_call 14; refine Calls.mono (bWithin_yes _ _ _ _ ?_) ?_; (omega); rintro e w1 ⟨rfl, rfl⟩) | (go_at_call 14; refine Calls.mono (bWithin_no _ _ _ _ ?_) ?_; (omega); rintro e w1 ⟨rfl, rfl⟩) | (go_at_call 15; refine Calls.mono (CB.out _ ?_ ?_) ?_; (exact HF.out.ext (H3.out.ext.trans (by repeat (first | exact Ext.refl _ | assumption | refine Ext.alloc ?_ _ | refine Ext.drew ?_ | refine Ext.drewN ?_ _ | (refine Ext.setCell ?_ (by simp <;> omega) _) | refine Ext.trans ?_ (by assumption))))); (exact HX.out.ext (H3.out.ext.trans (by repeat (first | exact Ext.refl _ | assumption | refine Ext.alloc ?_ _ | refine Ext.drew ?_ | refine Ext.drewN ?_ _ | (refine Ext.setCell ?_ (by simp <;> omega) _) | refine Ext.trans ?_ (by assumption))))); rintro e w4 ⟨B, cb, rfl, hS, hb⟩; have H4 := Lib.hid (H3.out.next (Ext.trans (by repeat (first | exact Ext.refl _ | assumption | refine Ext.alloc ?_ _ | refine Ext.drew ?_ | refine Ext.drewN ?_ _ | (refine Ext.setCell ?_ (by simp <;> omega) _) | refine Ext.trans ?_ (by assumption))) hb)); obtain ⟨g0, g1, g2, gl⟩ := H4.out.blk.c3; have HB := Lib.hid hS.ri; clear hS hb))
      go_ret
      exact Ret.mk' rfl (H4.out.ext.trans (by repeat (first | exact Ext.refl _ | assumption | refine Ext.alloc ?_ _ | refine Ext.drew ?_ | refine Ext.drewN ?_ _ | (refine Ext.setCell ?_ (by simp <;> omega) _) | refine Ext.trans ?_ (by assumption))))
    case neg =>
    have hbr : billR f ns size = (billL size ns, 0) := by unfold billR; rw [if_neg (by rw [hce]; simp), if_neg (by simp; omega), if_neg hsum]
    rw [hbr] at cB
    have hck := (case_zero hce).1
    have hok := BillOk.of (size := size) hce (by omega) hsum
    have HTM := Lib.hid (fun n hn => hok.times hce hsum hz2 n hn)
    have HJN := Lib.hid (fun n hn => hok.join hck hz2 n hn)
    obtain ⟨m, q, r, em, eq, b1, b2, b3, b4, b5, b6, b7, b8⟩ := hok.cast hck ⟨hz1, hz2⟩ metal ⟨ht1, ht2⟩
    have HBL : Hid ((billL size ns).length ≤ 1000000) := Lib.hid (by rw [billL_len]; omega)
    generalize billL size ns = bl at *
    have cT := fun B cb W h1 h2 => cast_any f A c metal B cb bl W h1 h2
    have cM := fun B cb W h1 h2 => metalOf_any f A c B cb bl W h1 h2
    rw [eq] at cT
    rw [em] at cM
    have cJ := fun D d k B cb W h1 h2 h3 => joined_any f A c D d B cb (mulL k bl) bl W h1 h2 h3
    have cU := fun B cb W h1 h2 h3 => times_any f A c B cb X0 cx bl ns W h1 h2 h3
    have cV := fun D d k W h1 h2 h3 => times_any f A c D d X0 cx (mulL k bl) ns W h1 h2 h3
    obtain ⟨nn, hnn⟩ : ∃ nn : Nat, min q 20 = (nn : Int) := ⟨(min q 20).toNat, by omega⟩
    have hn20 : nn ≤ 20 := by omega
    have p0 := mul_bd (M := metal) (N := 14400000000) ⟨b3, b4⟩ (show 0 ≤ m ∧ m ≤ 14400000000 by omega)
    have p1 : 0 ≤ q * m := p0.1
    have p2 : q * m ≤ metal := by omega
    have k1 : metal / m = q := b8.symm
    have k2 : metal.tdiv m = q := by rw [Int.tdiv_eq_ediv_of_nonneg ht1]; exact k1
    have k3 : (m == 0) = false := by simp; omega
    clear hok hce hbr hsum hck em eq b8 p0
    obtain ⟨name, body, ss⟩ := f
    simp only [FT.val] at *
    have CF := Lib.hid cFew; have CC := Lib.hid cChk; have CB := Lib.hid cB; have CT := Lib.hid cT; have CM := Lib.hid cM; have CJ := Lib.hid cJ; have CU := Lib.hid cU; have CV := Lib.hid cV; clear cFew cChk cB cT cM cJ cU cV
    go_enter Try.func4, Try.ntmps4
    go_wp2_with (first | (go_at_call 5; refine Calls.mono (topCast_any _) ?_; rintro e w1 ⟨rfl, hb⟩; have H1 := Lib.hid (Here.start (name := name) (body := body) (A := A) (n := ss.length) (c := c) w (Ext.trans (by repeat (first | exact Ext.refl _ | assumption | refine Ext.alloc ?_ _ | refine Ext.drew ?_ | refine Ext.drewN ?_ _ | (refine Ext.setCell ?_ (by simp <;> omega) _) | refine Ext.trans ?_ (by assumption))) hb)); obtain ⟨a0, a1, a2, al⟩ := H1.out.blk.c3; obtain ⟨x0, x1, _, _, xl⟩ := ((Blk.new1 _ _ _ _).ext hb).c2; clear hb))
    go_quiet (fail)
    go_wp2_with (first | (go_at_call 6; refine Calls.mono (CF.out _ ?_) ?_; (exact HF.out.ext (H1.out.ext.trans (by repeat (first | exact Ext.refl _ | assumption | refine Ext.alloc ?_ _ | refine Ext.drew ?_ | refine Ext.drewN ?_ _ | (refine Ext.setCell ?_ (by simp <;> omega) _) | refine Ext.trans ?_ (by assumption))))); rintro e w2 ⟨rfl, hb⟩; have H2 := Lib.hid (H1.out.next (Ext.trans (by repeat (first | exact Ext.refl _ | assumption | refine Ext.alloc ?_ _ | refine Ext.drew ?_ | refine Ext.drewN ?_ _ | (refine Ext.setCell ?_ (by simp <;> omega) _) | refine Ext.trans ?_ (by assumption))) hb)); obtain ⟨u0, u1, u2, ul⟩ := H2.out.blk.c3; clear hb) | (go_at_call 7; refine Calls.mono (CC.out _ ?_ ?_) ?_; (exact HF.out.ext (H2.out.ext.trans (by repeat (first | exact Ext.refl _ | assumption | refine Ext.alloc ?_ _ | refine Ext.drew ?_ | refine Ext.drewN ?_ _ | (refine Ext.setCell ?_ (by simp <;> omega) _) | refine Ext.trans ?_ (by assumption))))); (exact HX.out.ext (H2.out.ext.trans (by repeat (first | exact Ext.refl _ | assumption | refine Ext.alloc ?_ _ | refine Ext.drew ?_ | refine Ext.drewN ?_ _ | (refine Ext.setCell ?_ (by simp <;> omega) _) | refine Ext.trans ?_ (by assumption))))); rintro e w3 ⟨rfl, hb⟩; have H3 := Lib.hid (H2.out.next (Ext.trans (by repeat (first | exact Ext.refl _ | assumption | refine Ext.alloc ?_ _ | refine Ext.drew ?_ | refine Ext.drewN ?_ _ | (refine Ext.setCell ?_ (by simp <;> omega) _) | refine Ext.trans ?_ (by assumption))) hb)); obtain ⟨d0, d1, d2, dl⟩ := H3.out.blk.c3; clear hb) | (go_at_call 14; refine Calls.mono (bWithin_yes _ _ _ _ ?_) ?_; (omega); rintro e w1 ⟨rfl, rfl⟩) | (go_at_call 14; refine Calls.mono (bWithin_no _ _ _ _ ?_) ?_; (omega); rintro e w1 ⟨rfl, rfl⟩) | (go_at_call 15; refine Calls.mono (CB.out _ ?_ ?_) ?_; (exact HF.out.ext (H3.out.ext.trans (by repeat (first | exact Ext.refl _ | assumption | refine Ext.alloc ?_ _ | refine Ext.drew ?_ | refine Ext.drewN ?_ _ | (refine Ext.setCell ?_ (by simp <;> omega) _) | refine Ext.trans ?_ (by assumption))))); (exact HX.out.ext (H3.out.ext.trans (by repeat (first | exact Ext.refl _ | assumption | refine Ext.alloc ?_ _ | refine Ext.drew ?_ | refine Ext.drewN ?_ _ | (refine Ext.setCell ?_ (by simp <;> omega) _) | refine Ext.trans ?_ (by assumption))))); rintro e w4 ⟨B, cb, rfl, hS, hb⟩; have H4 := Lib.hid (H3.out.next (Ext.trans (by repeat (first | exact Ext.refl _ | assumption | refine Ext.alloc ?_ _ | refine Ext.drew ?_ | refine Ext.drewN ?_ _ | (refine Ext.setCell ?_ (by simp <;> omega) _) | refine Ext.trans ?_ (by assumption))) hb)); obtain ⟨g0, g1, g2, gl⟩ := H4.out.blk.c3; have HB := Lib.hid hS.ri; clear hS hb) | (go_at_call 16; refine Calls.mono (CT.out _ _ _ ?_ ?_) ?_; (exact HF.out.ext (H4.out.ext.trans (by repeat (first | exact Ext.refl _ | assumption | refine Ext.alloc ?_ _ | refine Ext.drew ?_ | refine Ext.drewN ?_ _ | (refine Ext.setCell ?_ (by simp <;> omega) _) | refine Ext.trans ?_ (by assumption))))); (exact HB.out.ext (by repeat (first | exact Ext.refl _ | assumption | refine Ext.alloc ?_ _ | refine Ext.drew ?_ | refine Ext.drewN ?_ _ | (refine Ext.setCell ?_ (by simp <;> omega) _) | refine Ext.trans ?_ (by assumption)))); rintro e w5 ⟨rfl, hb⟩; have E5 := Lib.hid (show Ext w4 w5 from Ext.trans (by repeat (first | exact Ext.refl _ | assumption | refine Ext.alloc ?_ _ | refine Ext.drew ?_ | refine Ext.drewN ?_ _ | (refine Ext.setCell ?_ (by simp <;> omega) _) | refine Ext.trans ?_ (by assumption))) hb); have H5 := Lib.hid (H4.out.next E5.out); obtain ⟨h0, h1, h2, hl⟩ := H5.out.blk.c3; clear hb) | (go_at_call 12; refine Calls.mono (CM.out _ _ _ ?_ ?_) ?_; (exact HF.out.ext (H5.out.ext.trans (by repeat (first | exact Ext.refl _ | assumption | refine Ext.alloc ?_ _ | refine Ext.drew ?_ | refine Ext.drewN ?_ _ | (refine Ext.setCell ?_ (by simp <;> omega) _) | refine Ext.trans ?_ (by assumption))))); (exact HB.out.ext (E5.out.trans (by repeat (first | exact Ext.refl _ | assumption | refine Ext.alloc ?_ _ | refine Ext.drew ?_ | refine Ext.drewN ?_ _ | (refine Ext.setCell ?_ (by simp <;> omega) _) | refine Ext.trans ?_ (by assumption))))); rintro e w6 ⟨rfl, hb⟩; have E6 := Lib.hid (E5.out.trans (Ext.trans (by repeat (first | exact Ext.refl _ | assumption | refine Ext.alloc ?_ _ | refine Ext.drew ?_ | refine Ext.drewN ?_ _ | (refine Ext.setCell ?_ (by simp <;> omega) _) | refine Ext.trans ?_ (by assumption))) hb)); have H6 := Lib.hid (H4.out.next E6.out); obtain ⟨i0, i1, i2, il⟩ := H6.out.blk.c3; clear hb) | (at_make; refine list_makeI rfl (.tmp 116) (.tmp 116) rfl bl.length rfl rfl HBL.out ?_; intro W7 hS hx hlt; have E7 := Lib.hid (E6.out.trans (Ext.trans (by repeat (first | exact Ext.refl _ | assumption | refine Ext.alloc ?_ _ | refine Ext.drew ?_ | refine Ext.drewN ?_ _ | (refine Ext.setCell ?_ (by simp <;> omega) _) | refine Ext.trans ?_ (by assumption))) hx)); have H7 := Lib.hid (H4.out.next E7.out); obtain ⟨j0, j1, j2, jl⟩ := H7.out.blk.c3; have HZ := Lib.hid hS.ri; clear hS hx))
    clear H1 H2 H3 a0 a1 a2 al u0 u1 u2 ul d0 d1 d2 dl g0 g1 g2 gl h0 h1 h2 hl i0 i1 i2 il

    go_loopw [16, 17] (fun V I wr => ∃ (k : Nat) (D : Option Addr) (d : Nat) (cl : List Int), Hid (cl = mulL k bl) ∧ k ≤ nn ∧ I = .int .i64 k ∧ V = .slice D cl.length d ∧ Ext w4 wr ∧ RI wr D cl.length cl) (fun _ I _ => nn - (intOf I).toNat)
    case atStart => exact ⟨0, some ⟨_, 0, none⟩, bl.length, mulL 0 bl, Lib.hid rfl, Nat.zero_le _, rfl, by rw [mulL_len], E7.out.trans (by repeat (first | exact Ext.refl _ | assumption | refine Ext.alloc ?_ _ | refine Ext.drew ?_ | refine Ext.drewN ?_ _ | (refine Ext.setCell ?_ (by simp <;> omega) _) | refine Ext.trans ?_ (by assumption))), by rw [mulL_zero]; simpa using HZ.out.ext (by repeat (first | exact Ext.refl _ | assumption | refine Ext.alloc ?_ _ | refine Ext.drew ?_ | refine Ext.drewN ?_ _ | (refine Ext.setCell ?_ (by simp <;> omega) _) | refine Ext.trans ?_ (by assumption)))⟩
    case round =>
      obtain ⟨k, D, d, cl, hcl, hk, rfl, rfl, hxw, hrc⟩ := hrel
      have EW := Lib.hid hxw; have HC := Lib.hid hrc
      have K0 := Lib.hid (H4.out.next hxw)
      obtain ⟨q0, q1, q2, ql⟩ := K0.out.blk.c3
      clear hxw hrc H5 H6 H7 E5 E6 E7 HZ
      by_cases hlt : k < nn
      case pos =>
        have hki : (k : Int) < (nn : Int) := by omega
        have cj := fun D d B cb => CJ.out D d (k : Int) B cb
        simp only [HJN.out (k : Int) ⟨by omega, by omega⟩] at cj
        rw [← hcl.out] at cj
        have HN : Hid (mulL ((k : Int) + 1) bl = mulL ((k + 1 : Nat) : Int) bl) := Lib.hid rfl
        generalize mulL ((k : Int) + 1) bl = nx at *
        have CJ' := Lib.hid (cj D d B cb); clear cj
        clear CJ
        have CJ := CJ'; clear CJ'
        go_wp2_with (first | (go_at_call 11; refine Calls.mono (CJ.out _ ?_ ?_ ?_) ?_; (exact HF.out.ext (K0.out.ext.trans (by repeat (first | exact Ext.refl _ | assumption | refine Ext.alloc ?_ _ | refine Ext.drew ?_ | refine Ext.drewN ?_ _ | (refine Ext.setCell ?_ (by simp <;> omega) _) | refine Ext.trans ?_ (by assumption))))); (exact HC.out.ext (by repeat (first | exact Ext.refl _ | assumption | refine Ext.alloc ?_ _ | refine Ext.drew ?_ | refine Ext.drewN ?_ _ | (refine Ext.setCell ?_ (by simp <;> omega) _) | refine Ext.trans ?_ (by assumption)))); (exact HB.out.ext (EW.out.trans (by repeat (first | exact Ext.refl _ | assumption | refine Ext.alloc ?_ _ | refine Ext.drew ?_ | refine Ext.drewN ?_ _ | (refine Ext.setCell ?_ (by simp <;> omega) _) | refine Ext.trans ?_ (by assumption))))); rintro e V1 ⟨Z, cz, rfl, hS, hb⟩; have E1 := Lib.hid (show Ext wr V1 from Ext.trans (by repeat (first | exact Ext.refl _ | assumption | refine Ext.alloc ?_ _ | refine Ext.drew ?_ | refine Ext.drewN ?_ _ | (refine Ext.setCell ?_ (by simp <;> omega) _) | refine Ext.trans ?_ (by assumption))) hb); have K1 := Lib.hid (K0.out.next E1.out); have HZ1 := Lib.hid hS.ri; obtain ⟨y0, y1, y2, yl⟩ := K1.out.blk.c3; clear hS hb))
        go_roundw
        case rel => exact ⟨k + 1, Z, cz, nx, HN, by omega, by go_num, rfl, EW.out.trans (E1.out.trans (by repeat (first | exact Ext.refl _ | assumption | refine Ext.alloc ?_ _ | refine Ext.drew ?_ | refine Ext.drewN ?_ _ | (refine Ext.setCell ?_ (by simp <;> omega) _) | refine Ext.trans ?_ (by assumption)))), HZ1.out.ext (by repeat (first | exact Ext.refl _ | assumption | refine Ext.alloc ?_ _ | refine Ext.drew ?_ | refine Ext.drewN ?_ _ | (refine Ext.setCell ?_ (by simp <;> omega) _) | refine Ext.trans ?_ (by assumption)))⟩
        case measure => simp [intOf]; omega
      case neg =>
        obtain rfl : k = nn := by omega
        by_cases hk0 : k = 0
        · have e0 : ((k : Int) == 0) = true := by simp; omega
          go_wp2
          go_ret
          exact Ret.mk' rfl (K0.out.ext.trans (by repeat (first | exact Ext.refl _ | assumption | refine Ext.alloc ?_ _ | refine Ext.drew ?_ | refine Ext.drewN ?_ _ | (refine Ext.setCell ?_ (by simp <;> omega) _) | refine Ext.trans ?_ (by assumption))))
        · have e0 : ((k : Int) == 0) = false := by simp; omega
          obtain ⟨a, b, s, t, ha, hb', c1, c2, c3⟩ := HTM.out (k : Int) ⟨by omega, by omega⟩
          have cu := fun W h1 h2 h3 => CU.out B cb W h1 h2 h3
          have cv := fun W h1 h2 h3 => CV.out D d (k : Int) W h1 h2 h3
          unfold timesV at cu cv
          rw [ha] at cu
          rw [hb', ← hcl.out] at cv
          have CT1 := Lib.hid cu; have CT2 := Lib.hid cv
          have q1 := mul_bd (show 0 ≤ a ∧ a ≤ 1000 from ⟨c1, c2⟩) (show 0 ≤ (k : Int) ∧ (k : Int) ≤ 20 by omega)
          obtain ⟨q1, q2⟩ := q1
          have q3 : a * (k : Int) ≤ b := by rw [Int.mul_comm]; exact c3
          have q4 : ¬ b < a * (k : Int) := by omega
          clear cu cv ha hb' CJ CU CV hk0 HTM HJN
          go_wp2_with (first | (go_at_call 17; have hq1 := K1; clear hq1; refine Calls.mono (CT2.out _ ?_ ?_ ?_) ?_; (exact HF.out.ext (K1.out.ext.trans (by repeat (first | exact Ext.refl _ | assumption | refine Ext.alloc ?_ _ | refine Ext.drew ?_ | refine Ext.drewN ?_ _ | (refine Ext.setCell ?_ (by simp <;> omega) _) | refine Ext.trans ?_ (by assumption))))); (exact HC.out.ext (E1.out.trans (by repeat (first | exact Ext.refl _ | assumption | refine Ext.alloc ?_ _ | refine Ext.drew ?_ | refine Ext.drewN ?_ _ | (refine Ext.setCell ?_ (by simp <;> omega) _) | refine Ext.trans ?_ (by assumption))))); (exact HX.out.ext (K1.out.ext.trans (by repeat (first | exact Ext.refl _ | assumption | refine Ext.alloc ?_ _ | refine Ext.drew ?_ | refine Ext.drewN ?_ _ | (refine Ext.setCell ?_ (by simp <;> omega) _) | refine Ext.trans ?_ (by assumption))))); rintro e V2 ⟨rfl, hb⟩; have K2 := Lib.hid (K1.out.next (Ext.trans (by repeat (first | exact Ext.refl _ | assumption | refine Ext.alloc ?_ _ | refine Ext.drew ?_ | refine Ext.drewN ?_ _ | (refine Ext.setCell ?_ (by simp <;> omega) _) | refine Ext.trans ?_ (by assumption))) hb)); clear hb) | (go_at_call 17; refine Calls.mono (CT1.out _ ?_ ?_ ?_) ?_; (exact HF.out.ext (K0.out.ext.trans (by repeat (first | exact Ext.refl _ | assumption | refine Ext.alloc ?_ _ | refine Ext.drew ?_ | refine Ext.drewN ?_ _ | (refine Ext.setCell ?_ (by simp <;> omega) _) | refine Ext.trans ?_ (by assumption))))); (exact HB.out.ext (EW.out.trans (by repeat (first | exact Ext.refl _ | assumption | refine Ext.alloc ?_ _ | refine Ext.drew ?_ | refine Ext.drewN ?_ _ | (refine Ext.setCell ?_ (by simp <;> omega) _) | refine Ext.trans ?_ (by assumption))))); (exact HX.out.ext (K0.out.ext.trans (by repeat (first | exact Ext.refl _ | assumption | refine Ext.alloc ?_ _ | refine Ext.drew ?_ | refine Ext.drewN ?_ _ | (refine Ext.setCell ?_ (by simp <;> omega) _) | refine Ext.trans ?_ (by assumption))))); rintro e V1 ⟨rfl, hb⟩; have E1 := Lib.hid (show Ext wr V1 from Ext.trans (by repeat (first | exact Ext.refl _ | assumption | refine Ext.alloc ?_ _ | refine Ext.drew ?_ | refine Ext.drewN ?_ _ | (refine Ext.setCell ?_ (by simp <;> omega) _) | refine Ext.trans ?_ (by assumption))) hb); have K1 := Lib.hid (K0.out.next E1.out); obtain ⟨y0, y1, y2, yl⟩ := K1.out.blk.c3; clear hb))
          go_ret
          exact Ret.mk' rfl (K2.out.ext.trans (by repeat (first | exact Ext.refl _ | assumption | refine Ext.alloc ?_ _ | refine Ext.drew ?_ | refine Ext.drewN ?_ _ | (refine Ext.setCell ?_ (by simp <;> omega) _) | refine Ext.trans ?_ (by assumption))))
end Go.Proofs.Ytphkffndhifdkaa.casts
