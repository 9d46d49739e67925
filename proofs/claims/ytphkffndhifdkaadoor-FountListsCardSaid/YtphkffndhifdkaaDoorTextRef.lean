/-
  Walks: the reference's IsSpace and TextOf.
-/
import Derived.Test.YtphkffndhifdkaaDoorNeed
namespace Go.Proofs.YtphkffndhifdkaaDoor
open Go.RowKit

set_option maxRecDepth 100000 in
set_option maxHeartbeats 2000000 in
theorem rIsSpace_any (f : FT) (A : Option Addr) (c : Nat) (j : Nat) (b : Bool) (w : World) (hf : FR w A c f) (hj : j < f.sorts.length) (hb : decide ((f.sorts.getD j TS.zero).kind = 3) = b) :
    Calls Tryd.prog 70 #[f.val A c, .int .i64 j] w (Ret (.bool b) w) := by
  obtain ⟨name, body, ss⟩ := f
  simp only [FT.val] at *
  obtain ⟨b', off', rfl, hbw', hcell'⟩ := hf.rt.2.2 (by show 0 < ss.length; omega)
  have c2 := (hcell' j hj).2.2.1
  have hji : (j : Int) < (ss.length : Int) := by omega
  clear hcell' hf
  generalize (ss.getD j TS.zero).kind = y at *
  cases b
  · have e0 : (y == 3) = false := by simpa using hb
    clear hb
    go_enter Tryd.func70, Tryd.ntmps70
    go_wp2
    go_ret
    exact Ret.mk' rfl (by repeat (first | exact Ext.refl _ | assumption | refine Ext.alloc ?_ _ | refine Ext.drew ?_ | refine Ext.drewN ?_ _ | (refine Ext.setCell ?_ (by simp <;> omega) _) | refine Ext.trans ?_ (by assumption)))
  · have e0 : y = 3 := by simpa using hb
    subst e0
    clear hb
    go_enter Tryd.func70, Tryd.ntmps70
    go_wp2
    go_ret
    exact Ret.mk' rfl (by repeat (first | exact Ext.refl _ | assumption | refine Ext.alloc ?_ _ | refine Ext.drew ?_ | refine Ext.drewN ?_ _ | (refine Ext.setCell ?_ (by simp <;> omega) _) | refine Ext.trans ?_ (by assumption)))
theorem text_nil {f : FT} (h : (chk f).2 = 0) {k : Nat} (hk : k < f.sorts.length) (h3 : (f.sorts.getD k TS.zero).kind = 3) : (f.sorts.getD k TS.zero).text.data.toList = [] := by
  have h5 := (sort_ok h hk).2.2.2.2
  generalize f.sorts.getD k TS.zero = x at *
  unfold textErr at h5
  by_cases hp : printsB x.kind x.text = false
  · rw [if_pos hp] at h5; exact absurd h5 (by decide)
  · have hp' : printsB x.kind x.text = true := by simpa using hp
    unfold printsB at hp'
    simp only [Bool.and_eq_true, decide_eq_true_eq] at hp'
    have h2 := hp'.1.2
    rw [h3] at h2
    have h6 : printHi 3 = 0 := rfl
    have h4 : x.text.size = 0 := by omega
    exact List.eq_nil_of_length_eq_zero h4
theorem cat_blank (a : ByteArray) : (a ++ ⟨#[32]⟩).data.toList = a.data.toList ++ [32] := strAdd a ⟨#[32]⟩
theorem cat_size (a b : ByteArray) : (a ++ b).size = a.size + b.size := ByteArray.size_append
set_option maxRecDepth 100000 in
set_option maxHeartbeats 4000000 in
theorem rTextOf_any (f : FT) (A : Option Addr) (c : Nat) (B : Option Addr) (d : Nat) (zs : List Int) (w : World) (hf : FR w A c f) (h : RI w B zs.length zs) (hg : Good f.sorts.length zs) (hck : (chk f).2 = 0) :
    Calls Tryd.prog 27 #[f.val A c, .slice B zs.length d] w (Ret (.string ⟨(textTo f.sorts zs zs.length).toArray⟩) w) := by
  have HIX := Lib.hid hg.ix; have hl := hg.few; clear hg
  have HTX : Hid (∀ k, k < zs.length → (sortAt f.sorts zs k).text.size ≤ 4) := Lib.hid fun k hk => by
    have h1 := HIX.out k hk
    exact text_size hck (k := (zs.getD k 0).toNat) (by omega)
  have HTN : Hid (∀ k, k < zs.length → (sortAt f.sorts zs k).kind = 3 → (sortAt f.sorts zs k).text.data.toList = []) := Lib.hid fun k hk => by
    have h1 := HIX.out k hk
    exact text_nil hck (k := (zs.getD k 0).toNat) (by omega)
  have HBD : Hid (∀ n, n ≤ zs.length → (textTo f.sorts zs n).length ≤ 5 * n) := Lib.hid fun n hn => textTo_bd n fun k hk => HTX.out k (by omega)
  have cS := fun A c j b W h1 h2 h3 => rIsSpace_any f A c j b W h1 h2 h3
  have hss := (chk_zero hck).2.2.1
  have HF := Lib.hid hf; have HX := Lib.hid h; clear hf h hck
  obtain ⟨name, body, ss⟩ := f
  simp only [FT.val] at *
  have CS := Lib.hid cS; clear cS
  go_enter Tryd.func27, Tryd.ntmps27
  go_wp2
  go_loopw [5, 6] (fun s i wr => ∃ (k : Nat) (t : ByteArray), k ≤ zs.length ∧ i = .int .i64 k ∧ s = .string t ∧ Hid (t.data.toList = textTo ss zs k) ∧ Box w name body A ss.length c wr) (fun _ i _ => zs.length - (intOf i).toNat)
  case atStart => exact ⟨0, ⟨#[]⟩, Nat.zero_le _, rfl, rfl, Lib.hid rfl, ⟨(by repeat (first | exact Ext.refl _ | assumption | refine Ext.alloc ?_ _ | refine Ext.drew ?_ | refine Ext.drewN ?_ _ | (refine Ext.setCell ?_ (by simp <;> omega) _) | refine Ext.trans ?_ (by assumption))), Blk.new _ _ _⟩⟩
  case round =>
    obtain ⟨k, t, hk, rfl, rfl, htt, hbox⟩ := hrel
    have HBX := Lib.hid hbox
    obtain ⟨b0, b1, b2, bl⟩ := hbox.blk.c3
    have htl : t.size ≤ 50000 := by
      have h1 := HBD.out k hk
      rw [← htt.out] at h1
      have h2 : t.data.toList.length = t.size := rfl
      omega
    by_cases hlt : k < zs.length
    case pos =>
      obtain ⟨i1, i2⟩ := HIX.out k hlt
      obtain ⟨j, hj⟩ : ∃ j : Nat, zs.getD k 0 = (j : Int) := ⟨(zs.getD k 0).toNat, by omega⟩
      obtain ⟨b, off, rfl, hbw, hcell⟩ := HX.out.2.2 (by omega)
      have q1 := (hbox.ext.cell (p := ⟨b, off + k, none⟩) hbw).trans (hcell k hlt)
      have hbr : b < wr.heap.size := Nat.lt_of_lt_of_le hbw hbox.ext.size
      have HN : Hid (textTo ss zs (k + 1) = textTo ss zs k ++ (if (sortAt ss zs k).kind = 3 ∧ blankAt ss zs k = false then [32] else []) ++ (sortAt ss zs k).text.data.toList) := Lib.hid rfl
      have HTNk := Lib.hid (HTN.out k hlt)
      have htx := HTX.out k hlt
      have hsa : sortAt ss zs k = ss.getD j TS.zero := by unfold sortAt; rw [hj, Int.toNat_natCast]
      rw [hj] at q1 i1 i2
      have HJN : Hid (j < ss.length) := Lib.hid (by omega)
      have hjn := HJN.out
      obtain ⟨b', off', rfl, hbw', hcell'⟩ := HF.out.rt.2.2 (by show 0 < ss.length; omega)
      have q2 := (hbox.ext.cell (p := ⟨b', off' + j * 4 + 1, none⟩) hbw').trans (hcell' j hjn).2.1
      have hbr' : b' < wr.heap.size := Nat.lt_of_lt_of_le hbw' hbox.ext.size
      have hki : (k : Int) < (zs.length : Int) := by omega
      have hji : (j : Int) < (ss.length : Int) := by omega
      have HPB : Hid (∀ i, k = i + 1 → ∃ p : Nat, zs.getD i 0 = (p : Int) ∧ p < ss.length ∧ decide ((ss.getD p TS.zero).kind = 3) = blankAt ss zs k ∧ wr.cell? ⟨b, off + i, none⟩ = some (.int .i64 (p : Int))) := Lib.hid (fun i hi => by
        subst hi
        obtain ⟨p1, p2⟩ := HIX.out i (by omega)
        refine ⟨(zs.getD i 0).toNat, by omega, by omega, rfl, ?_⟩
        rw [(hbox.ext.cell (p := ⟨b, off + i, none⟩) hbw), hcell i (by omega)]
        congr 2; omega)
      rw [hsa] at htx HN HTNk
      have CSJ : Hid (∀ bb, decide ((ss.getD j TS.zero).kind = 3) = bb → ∀ W, FR W (some ⟨b', off', none⟩) c ⟨name, body, ss⟩ → Calls Tryd.prog 70 #[.agg #[.string name, .int .i64 body, .slice (some ⟨b', off', none⟩) ss.length c], .int .i64 j] W (Ret (.bool bb) W)) := Lib.hid (fun bb h W hf => CS.out _ c j bb W hf HJN.out h)
      clear hcell hcell' hj hsa hbox hjn
      generalize ss.getD j TS.zero = x at *
      obtain ⟨xn, xt, xk, xw⟩ := x
      simp only at q2 htx HN HTNk CSJ
      by_cases hx3 : xk = 3
      case neg =>
        have CB := Lib.hid (CSJ.out false (decide_eq_false hx3))
        have HN' : Hid (textTo ss zs (k + 1) = textTo ss zs k ++ xt.data.toList) := Lib.hid (by rw [HN.out, if_neg (fun h => hx3 h.1), List.append_nil])
        clear HN HTNk HPB CSJ hx3
        go_wp2
        go_region_held3 (fun W => W.cell? ⟨w.heap.size, 0, none⟩ = some (.string name) ∧ W.cell? ⟨w.heap.size, 1, none⟩ = some (.int .i64 body) ∧ W.cell? ⟨w.heap.size, 2, none⟩ = some (.slice (some ⟨b', off', none⟩) ss.length c) ∧ W.cell? ⟨b, off + k, none⟩ = some (.int .i64 (j : Int)) ∧ w.heap.size < W.heap.size ∧ b < W.heap.size) (first | exact ⟨x0, x1, x2, xq, xl, xb⟩ | go_keep)
          ((go_at_call 70; refine Calls.mono (CB.out _ ?_) ?_; (exact HF.out.ext (HBX.out.ext.trans (by repeat (first | exact Ext.refl _ | assumption | refine Ext.alloc ?_ _ | refine Ext.drew ?_ | refine Ext.drewN ?_ _ | (refine Ext.setCell ?_ (by simp <;> omega) _) | refine Ext.trans ?_ (by assumption))))); rintro e W1 ⟨rfl, hb⟩; have HE1 := Lib.hid (Ext.trans (by repeat (first | exact Ext.refl _ | assumption | refine Ext.alloc ?_ _ | refine Ext.drew ?_ | refine Ext.drewN ?_ _ | (refine Ext.setCell ?_ (by simp <;> omega) _) | refine Ext.trans ?_ (by assumption))) hb : Ext wr W1); have HB1 := Lib.hid (HBX.out.next HE1.out); obtain ⟨x0, x1, x2, xl⟩ := HB1.out.blk.c3; have xq := (HE1.out.cell (p := ⟨b, off + k, none⟩) hbr).trans q1; have y2 := (HE1.out.cell (p := ⟨b', off' + j * 4 + 1, none⟩) hbr').trans q2; have xb : b < W1.heap.size := (Nat.lt_of_lt_of_le hbr HE1.out.size); clear hb))
        go_wp2
        go_quiet (fail)
        go_wp2
        go_roundw
        case rel => exact ⟨k + 1, t ++ xt, by omega, by go_num, rfl, Lib.hid (by rw [strAdd, htt.out, HN'.out]), HB1.out.next (by repeat (first | exact Ext.refl _ | assumption | refine Ext.alloc ?_ _ | refine Ext.drew ?_ | refine Ext.drewN ?_ _ | (refine Ext.setCell ?_ (by simp <;> omega) _) | refine Ext.trans ?_ (by assumption)))⟩
        case measure => simp [intOf]; omega
      case pos =>
        have CB := Lib.hid (CSJ.out true (decide_eq_true hx3))
        have hxn := HTNk.out hx3
        have HN' : Hid (textTo ss zs (k + 1) = textTo ss zs k ++ (if blankAt ss zs k = false then [32] else [])) := Lib.hid (by rw [HN.out, hxn, List.append_nil]; simp [hx3])
        have HB00 : Hid (k = 0 → blankAt ss zs k = false) := Lib.hid (fun h => by rw [h]; rfl)
        clear HN HTNk CSJ hx3 hxn
        rcases Nat.eq_zero_or_pos k with hk0 | hk0
        · have ek : ((k : Int) == 0) = true := by rw [hk0]; rfl
          have HN2 : Hid (textTo ss zs (k + 1) = textTo ss zs k ++ [32]) := Lib.hid (by rw [HN'.out, if_pos (HB00.out hk0)])
          clear HN' HPB HB00 hk0
          go_wp2
          go_region_held3 (fun W => W.cell? ⟨w.heap.size, 0, none⟩ = some (.string name) ∧ W.cell? ⟨w.heap.size, 1, none⟩ = some (.int .i64 body) ∧ W.cell? ⟨w.heap.size, 2, none⟩ = some (.slice (some ⟨b', off', none⟩) ss.length c) ∧ W.cell? ⟨b, off + k, none⟩ = some (.int .i64 (j : Int)) ∧ w.heap.size < W.heap.size ∧ b < W.heap.size) (first | exact ⟨x0, x1, x2, xq, xl, xb⟩ | go_keep)
          ((go_at_call 70; refine Calls.mono (CB.out _ ?_) ?_; (exact HF.out.ext (HBX.out.ext.trans (by repeat (first | exact Ext.refl _ | assumption | refine Ext.alloc ?_ _ | refine Ext.drew ?_ | refine Ext.drewN ?_ _ | (refine Ext.setCell ?_ (by simp <;> omega) _) | refine Ext.trans ?_ (by assumption))))); rintro e W1 ⟨rfl, hb⟩; have HE1 := Lib.hid (Ext.trans (by repeat (first | exact Ext.refl _ | assumption | refine Ext.alloc ?_ _ | refine Ext.drew ?_ | refine Ext.drewN ?_ _ | (refine Ext.setCell ?_ (by simp <;> omega) _) | refine Ext.trans ?_ (by assumption))) hb : Ext wr W1); have HB1 := Lib.hid (HBX.out.next HE1.out); obtain ⟨x0, x1, x2, xl⟩ := HB1.out.blk.c3; have xq := (HE1.out.cell (p := ⟨b, off + k, none⟩) hbr).trans q1; have y2 := (HE1.out.cell (p := ⟨b', off' + j * 4 + 1, none⟩) hbr').trans q2; have xb : b < W1.heap.size := (Nat.lt_of_lt_of_le hbr HE1.out.size); clear hb))
          go_wp2
          go_quiet (fail)
          go_wp2
          go_roundw
          case rel => exact ⟨k + 1, t ++ ⟨#[32]⟩, by omega, by go_num, rfl, Lib.hid (by rw [cat_blank, htt.out, HN2.out]), HB1.out.next (by repeat (first | exact Ext.refl _ | assumption | refine Ext.alloc ?_ _ | refine Ext.drew ?_ | refine Ext.drewN ?_ _ | (refine Ext.setCell ?_ (by simp <;> omega) _) | refine Ext.trans ?_ (by assumption)))⟩
          case measure => simp [intOf]; omega
        · have ek : ((k : Int) == 0) = false := by rw [beq_eq_false_iff_ne]; omega
          obtain ⟨pp, hp1, hp2, hp3, hp4⟩ := HPB.out (k - 1) (by omega)
          have CP := Lib.hid (fun W hf => CS.out (some ⟨b', off', none⟩) c pp _ W hf hp2 hp3)
          have HP4 := Lib.hid hp4
          have j1 : IntKind.i64.wrap ((k : Int) - 1) = (k : Int) - 1 := IntWalk.i64_in _ (by omega)
          have j2 : (0 : Int) ≤ (k : Int) - 1 := by omega
          have j3 : ((k : Int) - 1).toNat = k - 1 := by omega
          have j4 : (k : Int) - 1 < (zs.length : Int) := by omega
          have j5 : (1 : Int) ≤ (k : Int) := by omega
          have j6 : (k : Int) < (zs.length : Int) + 1 := by omega
          have j7 : (k : Int) ≤ (zs.length : Int) := by omega
          have j8 : 1 ≤ k := by omega
          clear HPB HB00 hk0 hp1 hp2 hp3 hp4
          generalize blankAt ss zs k = bk at *
          cases bk
          · have HN2 : Hid (textTo ss zs (k + 1) = textTo ss zs k ++ [32]) := Lib.hid (by rw [HN'.out, if_pos rfl])
            clear HN'
            go_wp2
            go_region_held3 (fun W => W.cell? ⟨w.heap.size, 0, none⟩ = some (.string name) ∧ W.cell? ⟨w.heap.size, 1, none⟩ = some (.int .i64 body) ∧ W.cell? ⟨w.heap.size, 2, none⟩ = some (.slice (some ⟨b', off', none⟩) ss.length c) ∧ W.cell? ⟨b, off + k, none⟩ = some (.int .i64 (j : Int)) ∧ w.heap.size < W.heap.size ∧ b < W.heap.size) (first | exact ⟨x0, x1, x2, xq, xl, xb⟩ | go_keep)
          ((go_at_call 70; refine Calls.mono (CB.out _ ?_) ?_; (exact HF.out.ext (HBX.out.ext.trans (by repeat (first | exact Ext.refl _ | assumption | refine Ext.alloc ?_ _ | refine Ext.drew ?_ | refine Ext.drewN ?_ _ | (refine Ext.setCell ?_ (by simp <;> omega) _) | refine Ext.trans ?_ (by assumption))))); rintro e W1 ⟨rfl, hb⟩; have HE1 := Lib.hid (Ext.trans (by repeat (first | exact Ext.refl _ | assumption | refine Ext.alloc ?_ _ | refine Ext.drew ?_ | refine Ext.drewN ?_ _ | (refine Ext.setCell ?_ (by simp <;> omega) _) | refine Ext.trans ?_ (by assumption))) hb : Ext wr W1); have HB1 := Lib.hid (HBX.out.next HE1.out); obtain ⟨x0, x1, x2, xl⟩ := HB1.out.blk.c3; have xq := (HE1.out.cell (p := ⟨b, off + k, none⟩) hbr).trans q1; have y2 := (HE1.out.cell (p := ⟨b', off' + j * 4 + 1, none⟩) hbr').trans q2; have xb : b < W1.heap.size := (Nat.lt_of_lt_of_le hbr HE1.out.size); clear hb))
            have p4 := (HE1.out.cell (p := ⟨b, off + (k - 1), none⟩) hbr).trans HP4.out
            have xb0 := xb
            have yb0 : b' < W1.heap.size := Nat.lt_of_lt_of_le hbr' HE1.out.size
            have y20 := y2
            have HW1 := Lib.hid HE1.out
            go_wp2
            go_region_held3 (fun W => W.cell? ⟨w.heap.size, 0, none⟩ = some (.string name) ∧ W.cell? ⟨w.heap.size, 1, none⟩ = some (.int .i64 body) ∧ W.cell? ⟨w.heap.size, 2, none⟩ = some (.slice (some ⟨b', off', none⟩) ss.length c) ∧ W.cell? ⟨b, off + (k - 1), none⟩ = some (.int .i64 (pp : Int)) ∧ w.heap.size < W.heap.size ∧ b < W.heap.size) (first | exact ⟨z0, z1, z2, zq, zl, zb⟩ | go_keep)
              ((go_at_call 70; refine Calls.mono (CP.out _ ?_) ?_; (exact HF.out.ext (HB1.out.ext.trans (by repeat (first | exact Ext.refl _ | assumption | refine Ext.alloc ?_ _ | refine Ext.drew ?_ | refine Ext.drewN ?_ _ | (refine Ext.setCell ?_ (by simp <;> omega) _) | refine Ext.trans ?_ (by assumption))))); rintro e W2 ⟨rfl, hb⟩; have HE2 := Lib.hid (Ext.trans (by repeat (first | exact Ext.refl _ | assumption | refine Ext.alloc ?_ _ | refine Ext.drew ?_ | refine Ext.drewN ?_ _ | (refine Ext.setCell ?_ (by simp <;> omega) _) | refine Ext.trans ?_ (by assumption))) hb : Ext W1 W2); have HB2 := Lib.hid (HB1.out.next HE2.out); obtain ⟨z0, z1, z2, zl⟩ := HB2.out.blk.c3; have zq := (HE2.out.cell (p := ⟨b, off + (k - 1), none⟩) xb).trans p4; have zb : b < W2.heap.size := (Nat.lt_of_lt_of_le xb HE2.out.size); clear hb))
            clear j1 j2 j3 j4 j5 j6 j7 j8
            go_wp2
            go_roundw
            case rel => exact ⟨k + 1, t ++ ⟨#[32]⟩, by omega, by go_num, rfl, Lib.hid (by rw [cat_blank, htt.out, HN2.out]), HB2.out.next (by repeat (first | exact Ext.refl _ | assumption | refine Ext.alloc ?_ _ | refine Ext.drew ?_ | refine Ext.drewN ?_ _ | (refine Ext.setCell ?_ (by simp <;> omega) _) | refine Ext.trans ?_ (by assumption)))⟩
            case measure => simp [intOf]; omega
          · have HN2 : Hid (textTo ss zs (k + 1) = textTo ss zs k) := Lib.hid (by rw [HN'.out, if_neg (by simp), List.append_nil])
            clear HN'
            go_wp2
            go_region_held3 (fun W => W.cell? ⟨w.heap.size, 0, none⟩ = some (.string name) ∧ W.cell? ⟨w.heap.size, 1, none⟩ = some (.int .i64 body) ∧ W.cell? ⟨w.heap.size, 2, none⟩ = some (.slice (some ⟨b', off', none⟩) ss.length c) ∧ W.cell? ⟨b, off + k, none⟩ = some (.int .i64 (j : Int)) ∧ w.heap.size < W.heap.size ∧ b < W.heap.size) (first | exact ⟨x0, x1, x2, xq, xl, xb⟩ | go_keep)
          ((go_at_call 70; refine Calls.mono (CB.out _ ?_) ?_; (exact HF.out.ext (HBX.out.ext.trans (by repeat (first | exact Ext.refl _ | assumption | refine Ext.alloc ?_ _ | refine Ext.drew ?_ | refine Ext.drewN ?_ _ | (refine Ext.setCell ?_ (by simp <;> omega) _) | refine Ext.trans ?_ (by assumption))))); rintro e W1 ⟨rfl, hb⟩; have HE1 := Lib.hid (Ext.trans (by repeat (first | exact Ext.refl _ | assumption | refine Ext.alloc ?_ _ | refine Ext.drew ?_ | refine Ext.drewN ?_ _ | (refine Ext.setCell ?_ (by simp <;> omega) _) | refine Ext.trans ?_ (by assumption))) hb : Ext wr W1); have HB1 := Lib.hid (HBX.out.next HE1.out); obtain ⟨x0, x1, x2, xl⟩ := HB1.out.blk.c3; have xq := (HE1.out.cell (p := ⟨b, off + k, none⟩) hbr).trans q1; have y2 := (HE1.out.cell (p := ⟨b', off' + j * 4 + 1, none⟩) hbr').trans q2; have xb : b < W1.heap.size := (Nat.lt_of_lt_of_le hbr HE1.out.size); clear hb))
            have p4 := (HE1.out.cell (p := ⟨b, off + (k - 1), none⟩) hbr).trans HP4.out
            have xb0 := xb
            have yb0 : b' < W1.heap.size := Nat.lt_of_lt_of_le hbr' HE1.out.size
            have y20 := y2
            have HW1 := Lib.hid HE1.out
            go_wp2
            go_region_held3 (fun W => W.cell? ⟨w.heap.size, 0, none⟩ = some (.string name) ∧ W.cell? ⟨w.heap.size, 1, none⟩ = some (.int .i64 body) ∧ W.cell? ⟨w.heap.size, 2, none⟩ = some (.slice (some ⟨b', off', none⟩) ss.length c) ∧ W.cell? ⟨b, off + (k - 1), none⟩ = some (.int .i64 (pp : Int)) ∧ w.heap.size < W.heap.size ∧ b < W.heap.size) (first | exact ⟨z0, z1, z2, zq, zl, zb⟩ | go_keep)
              ((go_at_call 70; refine Calls.mono (CP.out _ ?_) ?_; (exact HF.out.ext (HB1.out.ext.trans (by repeat (first | exact Ext.refl _ | assumption | refine Ext.alloc ?_ _ | refine Ext.drew ?_ | refine Ext.drewN ?_ _ | (refine Ext.setCell ?_ (by simp <;> omega) _) | refine Ext.trans ?_ (by assumption))))); rintro e W2 ⟨rfl, hb⟩; have HE2 := Lib.hid (Ext.trans (by repeat (first | exact Ext.refl _ | assumption | refine Ext.alloc ?_ _ | refine Ext.drew ?_ | refine Ext.drewN ?_ _ | (refine Ext.setCell ?_ (by simp <;> omega) _) | refine Ext.trans ?_ (by assumption))) hb : Ext W1 W2); have HB2 := Lib.hid (HB1.out.next HE2.out); obtain ⟨z0, z1, z2, zl⟩ := HB2.out.blk.c3; have zq := (HE2.out.cell (p := ⟨b, off + (k - 1), none⟩) xb).trans p4; have zb : b < W2.heap.size := (Nat.lt_of_lt_of_le xb HE2.out.size); clear hb))
            clear j1 j2 j3 j4 j5 j6 j7 j8
            go_wp2
            go_roundw
            case rel => exact ⟨k + 1, t, by omega, by go_num, rfl, Lib.hid (by rw [htt.out, HN2.out]), HB2.out.next (by repeat (first | exact Ext.refl _ | assumption | refine Ext.alloc ?_ _ | refine Ext.drew ?_ | refine Ext.drewN ?_ _ | (refine Ext.setCell ?_ (by simp <;> omega) _) | refine Ext.trans ?_ (by assumption)))⟩
            case measure => simp [intOf]; omega
    case neg =>
      obtain rfl : k = zs.length := by omega
      have HTE : Hid (t = ⟨(textTo ss zs zs.length).toArray⟩) := Lib.hid (bytes_ext (by rw [htt.out]))
      clear hbox
      go_wp2
      go_ret
      exact Ret.mk' (by rw [← HTE.out]; rfl) HBX.out.ext
end Go.Proofs.YtphkffndhifdkaaDoor
