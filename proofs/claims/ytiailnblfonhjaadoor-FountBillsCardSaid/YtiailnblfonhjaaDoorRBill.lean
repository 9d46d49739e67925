/-
  Walk: the reference's BillFor, of a right need.
-/
import Derived.Test.YtiailnblfonhjaaDoorPick
import Derived.Test.YtiailnblfonhjaaDoorRefC
namespace Go.Proofs.YtiailnblfonhjaaDoor
open Go.RowKit

/-- The two rows that the reference's bill keeps. -/
structure Pk (w wr : World) (gO cO gM n : Nat) (outs : List Int) (mks : List Bool) : Prop where
  out : Own wr w.heap.size (.slice (some ⟨gO, 0, none⟩) n cO) outs
  mark : OwnB wr w.heap.size (.slice (some ⟨gM, 0, none⟩) n n) mks
  ne : gO ≠ gM
  ext : Ext w wr
section
variable {w a b : World} {gO cO gM n : Nat} {outs : List Int} {mks : List Bool}
theorem Pk.next (h : Pk w a gO cO gM n outs mks) (hx : Ext a b) : Pk w b gO cO gM n outs mks := ⟨h.out.ext hx, h.mark.ext hx, h.ne, h.ext.trans hx⟩
theorem Pk.leM (h : Pk w a gO cO gM n outs mks) : w.heap.size ≤ gM := (World.ownsRow.lt h.mark gM rfl).1
theorem Pk.leO (h : Pk w a gO cO gM n outs mks) : w.heap.size ≤ gO := (World.ownsRow.lt h.out gO rfl).1
theorem Pk.setM (h : Pk w a gO cO gM n outs mks) (i : Nat) (z : Bool) : Pk w (a.setCell ⟨gM, i, none⟩ (.bool z)) gO cO gM n outs (mks.set i z) :=
  ⟨h.out.block (fun g hg => by cases hg; exact Below.heap_setCell a ⟨gM, i, none⟩ (.bool z) gO h.ne), h.mark.set i z, h.ne, h.ext.setCell h.leM _⟩
theorem Pk.setO (h : Pk w a gO cO gM n outs mks) (i : Nat) (z : Int) : Pk w (a.setCell ⟨gO, i, none⟩ (.int .i64 z)) gO cO gM n (outs.set i z) mks :=
  ⟨h.out.set i z, h.mark.block (fun g hg => by cases hg; exact Below.heap_setCell a ⟨gO, i, none⟩ (.int .i64 z) gM h.ne.symm), h.ne, h.ext.setCell h.leO _⟩
end
theorem OwnB.mono {w : World} {base base' : Nat} {v : Value} {bs : List Bool} (h : OwnB w base v bs) (hb : base' ≤ base) : OwnB w base' v bs := by
  obtain ⟨h1, h2⟩ := h
  refine ⟨h1, ?_⟩
  rcases h2 with h2 | ⟨g, cap, cur, hv, hg, r⟩
  · exact .inl h2
  · exact .inr ⟨g, cap, cur, hv, Nat.le_trans hb hg, r⟩
theorem Pk.sl {w a : World} {gO cO gM n : Nat} {outs : List Int} {mks : List Bool} (h : Pk w a gO cO gM n outs mks) (hl : outs.length = n) (hn : n ≤ 1000) : SL a w.heap.size (some ⟨gO, 0, none⟩) cO outs := by
  subst hl
  have ho := h.out
  obtain ⟨A, c', he, hc, hr⟩ := ho.form (by omega)
  obtain ⟨e1, _, e3⟩ := Value.slice.inj he
  subst e1 e3
  exact ⟨ho, hr, hc⟩
theorem Pk.ri {w a : World} {gO cO gM n : Nat} {outs : List Int} {mks : List Bool} (h : Pk w a gO cO gM n outs mks) (hl : outs.length = n) (hn : n ≤ 1000) : RI a (some ⟨gO, 0, none⟩) n outs := (h.sl hl hn).ri.as hl
theorem Pk.sum {w a : World} {gO cO gM n : Nat} {outs : List Int} {mks : List Bool} (h : Pk w a gO cO gM n outs mks) (hl : outs.length = n) : sumW a gO n = sumZ outs n := by
  have := sumW_own h.out
  rwa [hl] at this
def rbR (ns : List Int) (total : Int) : List Int × Int := if ¬ (0 ≤ total ∧ total ≤ 1000000) then ([], 2) else if sumZ ns ns.length = 0 then ([], 11) else (billL total ns, 0)

set_option maxRecDepth 100000 in
set_option maxHeartbeats 8000000 in
theorem rBillFor_any (X : Option Addr) (cx : Nat) (ns : List Int) (total : Int) (w : World) (hx : RI w X ns.length ns) (hn : 1 ≤ ns.length) (hl : ns.length ≤ 120) (hb : Cnt ns 1000000) :
    Calls Tryd.prog 39 #[.slice X ns.length cx, .int .i64 total] w (RetSE (rbR ns total).1 (rbR ns total).2 w) := by
  have HX := Lib.hid hx; clear hx
  have HBN := Lib.hid hb.bd
  have cS := fun W h => total_any X cx ns W h (by omega) (fun k hk => by have := hb.bd k hk; omega)
  have hsum := sumTo_bd (fun k => ns.getD k 0) 1000000 ns.length hb.bd
  have ha0 : 0 ≤ sumZ ns ns.length := hsum.1
  have ha1 : sumZ ns ns.length ≤ 120000000 := by have := hsum.2; unfold sumZ; omega
  have HR : Hid (rbR ns total = if ¬ (0 ≤ total ∧ total ≤ 1000000) then ([], 2) else if sumZ ns ns.length = 0 then ([], 11) else (billL total ns, 0)) := Lib.hid rfl
  generalize rbR ns total = r at *
  by_cases ht : 0 ≤ total ∧ total ≤ 1000000
  case neg =>
    have HR' : Hid (r = ([], 2)) := Lib.hid (by rw [HR.out, if_pos ht])
    clear HR hsum cS hb ha0 ha1
    go_enter Tryd.func39, Tryd.ntmps39
    go_wp2_with (first | (go_at_call 17; refine Calls.mono (bWithin_yes _ _ _ _ ?_) ?_; (omega); rintro e w1 ⟨rfl, rfl⟩) | (go_at_call 17; refine Calls.mono (bWithin_no _ _ _ _ ?_) ?_; (omega); rintro e w1 ⟨rfl, rfl⟩))
    go_ret2
    exact ⟨none, 0, by rw [HR'.out]; rfl, by rw [HR'.out]; exact SL.nil _ _, (by repeat (first | exact Ext.refl _ | assumption | refine Ext.alloc ?_ _ | refine Ext.drew ?_ | refine Ext.drewN ?_ _ | (refine Ext.setCell ?_ (by simp <;> omega) _) | refine Ext.trans ?_ (by assumption)))⟩
  case pos =>
  obtain ⟨ht1, ht2⟩ := ht
  by_cases ha : sumZ ns ns.length = 0
  case pos =>
    have HR' : Hid (r = ([], 11)) := Lib.hid (by rw [HR.out, if_neg (by simp; omega), if_pos ha])
    rw [ha] at cS
    have CS := Lib.hid cS
    clear HR hsum cS hb ha0 ha1 ha
    go_enter Tryd.func39, Tryd.ntmps39
    go_wp2_with (first | (go_at_call 17; refine Calls.mono (bWithin_yes _ _ _ _ ?_) ?_; (omega); rintro e w1 ⟨rfl, rfl⟩) | (go_at_call 17; refine Calls.mono (bWithin_no _ _ _ _ ?_) ?_; (omega); rintro e w1 ⟨rfl, rfl⟩) | (go_at_call 80; refine Calls.mono (CS.out _ ?_) ?_; (exact HX.out.ext (by repeat (first | exact Ext.refl _ | assumption | refine Ext.alloc ?_ _ | refine Ext.drew ?_ | refine Ext.drewN ?_ _ | (refine Ext.setCell ?_ (by simp <;> omega) _) | refine Ext.trans ?_ (by assumption)))); rintro e w2 ⟨rfl, rfl⟩))
    go_ret2
    exact ⟨none, 0, by rw [HR'.out]; rfl, by rw [HR'.out]; exact SL.nil _ _, (by repeat (first | exact Ext.refl _ | assumption | refine Ext.alloc ?_ _ | refine Ext.drew ?_ | refine Ext.drewN ?_ _ | (refine Ext.setCell ?_ (by simp <;> omega) _) | refine Ext.trans ?_ (by assumption)))⟩
  case neg =>
  have hal : 1 ≤ sumZ ns ns.length := by omega
  have HR' : Hid (r = (billL total ns, 0)) := Lib.hid (by rw [HR.out, if_neg (by simp; omega), if_neg ha])
  have hrd := rest_bd (total := total) (ns := ns) rfl hal
  have HO := Lib.hid (bill_ord total (sumZ ns ns.length) ns hn)
  have HRS : Hid (restB total (sumZ ns ns.length) ns = total - sumZ (baseB total (sumZ ns ns.length) ns) ns.length) := Lib.hid rfl
  have HBE : Hid (billL total ns = bumpTo (ordL (ns.length - 1) (cfB (ns.length - 1) total (sumZ ns ns.length) ns)) (baseB total (sumZ ns ns.length) ns) (restB total (sumZ ns ns.length) ns).toNat) := Lib.hid rfl
  have HBL : Hid ((baseB total (sumZ ns ns.length) ns).length = ns.length) := Lib.hid (baseB_len _ _ _)
  have HBAT : Hid (∀ k, k < ns.length → (baseB total (sumZ ns ns.length) ns).getD k 0 = total * ns.getD k 0 / sumZ ns ns.length) := Lib.hid (fun k hk => baseB_at _ _ _ _ hk)
  have HBB : Hid (∀ k, k < ns.length → 0 ≤ (baseB total (sumZ ns ns.length) ns).getD k 0 ∧ (baseB total (sumZ ns ns.length) ns).getD k 0 ≤ 1000000) := Lib.hid (fun k hk => by
    rw [baseB_at _ _ _ _ hk]
    have h1 := share_nonneg (total := total) (ns := ns) hal ht1 (fun k hk => (hb.bd k hk).1) k hk
    have h2 := share_le (total := total) (ns := ns) rfl hal ht1 (fun k hk => (hb.bd k hk).1) k hk
    omega)
  have HREM : Hid (∀ k, remB total (sumZ ns ns.length) ns k = total * ns.getD k 0 % sumZ ns ns.length) := Lib.hid (fun k => rfl)
  generalize ordL (ns.length - 1) (cfB (ns.length - 1) total (sumZ ns ns.length) ns) = ord at *
  generalize baseB total (sumZ ns ns.length) ns = bb at *
  generalize restB total (sumZ ns ns.length) ns = R at *
  generalize remB total (sumZ ns ns.length) ns = rem at *
  have e0 : (sumZ ns ns.length == 0) = false := by simpa using ha
  generalize sumZ ns ns.length = al at *
  obtain ⟨hR0, hR1⟩ := hrd
  obtain ⟨rn, rfl⟩ := Int.eq_ofNat_of_zero_le hR0
  have e1 : ¬ al = 0 := by omega
  have CS := Lib.hid cS; clear cS HR hsum hb ha
  go_enter Tryd.func39, Tryd.ntmps39
  go_wp2_with (first | (go_at_call 17; refine Calls.mono (bWithin_yes _ _ _ _ ?_) ?_; (omega); rintro e w1 ⟨rfl, rfl⟩) | (go_at_call 17; refine Calls.mono (bWithin_no _ _ _ _ ?_) ?_; (omega); rintro e w1 ⟨rfl, rfl⟩) | (go_at_call 80; refine Calls.mono (CS.out _ ?_) ?_; (exact HX.out.ext (by repeat (first | exact Ext.refl _ | assumption | refine Ext.alloc ?_ _ | refine Ext.drew ?_ | refine Ext.drewN ?_ _ | (refine Ext.setCell ?_ (by simp <;> omega) _) | refine Ext.trans ?_ (by assumption)))); rintro e w2 ⟨rfl, rfl⟩))
  go_loopw [7, 8] (fun v i wr => ∃ k : Nat, k ≤ ns.length ∧ i = .int .i64 k ∧ Own wr w.heap.size v (bb.take k) ∧ Ext w wr) (fun _ i _ => ns.length - (intOf i).toNat)
  case atStart => exact ⟨0, Nat.zero_le _, rfl, Own.nil _ _, (by repeat (first | exact Ext.refl _ | assumption | refine Ext.alloc ?_ _ | refine Ext.drew ?_ | refine Ext.drewN ?_ _ | (refine Ext.setCell ?_ (by simp <;> omega) _) | refine Ext.trans ?_ (by assumption)))⟩
  case round =>
    obtain ⟨k, hk, rfl, hown, hxt⟩ := hrel
    by_cases hlt : k < ns.length
    case pos =>
      have HOW := Lib.hid hown; have HXT := Lib.hid hxt
      obtain ⟨b, off, rfl, hbw, hcell⟩ := (HX.out.ext hxt).2.2 (by omega)
      have c1 := hcell k hlt
      have HTS := Lib.hid (take_snoc bb k (by rw [HBL.out]; exact hlt))
      have HTL : Hid ((bb.take k).length ≤ 1000000) := Lib.hid (by rw [List.length_take]; omega)
      have HE := Lib.hid (HBAT.out k hlt)
      obtain ⟨x1, x2⟩ := HBN.out k hlt
      have hki : (k : Int) < (ns.length : Int) := by omega
      have HSZ := Lib.hid hxt.size
      generalize ns.getD k 0 = x at *
      obtain ⟨p1, p2⟩ := mul_bd (show 0 ≤ total ∧ total ≤ 1000000 by omega) (show 0 ≤ x ∧ x ≤ 1000000 by omega)
      have q1 := IntWalk.i64_in (total * x) (by omega)
      have q2 : (total * x).tdiv al = total * x / al := Int.tdiv_eq_ediv_of_nonneg p1
      have q3 : 0 ≤ total * x / al := Int.ediv_nonneg p1 (by omega)
      have q4 : total * x / al ≤ total * x := Int.ediv_le_self _ p1
      have q5 := IntWalk.i64_in (total * x / al) (by omega)
      clear hcell hown hxt
      go_wp2_with (at_builtin; refine list_push rfl (.tmp 25) (.tmp 34) rfl w.heap.size _ (bb.take k) rfl (HOW.out.ext (by repeat (first | exact Ext.refl _ | assumption | refine Ext.alloc ?_ _ | refine Ext.drew ?_ | refine Ext.drewN ?_ _ | (refine Ext.setCell ?_ (by simp <;> omega) _) | refine Ext.trans ?_ (by assumption)))) wr.heap.size (total * x / al) rfl (by simp) HTL.out (by have := HSZ.out; simp; omega) ?_; intro v' w' hown' hg'; have HO' := Lib.hid hown'; have HX' := Lib.hid (own_ext hg' (HOW.out.ext (by repeat (first | exact Ext.refl _ | assumption | refine Ext.alloc ?_ _ | refine Ext.drew ?_ | refine Ext.drewN ?_ _ | (refine Ext.setCell ?_ (by simp <;> omega) _) | refine Ext.trans ?_ (by assumption)))) (Ext.trans HXT.out (by repeat (first | exact Ext.refl _ | assumption | refine Ext.alloc ?_ _ | refine Ext.drew ?_ | refine Ext.drewN ?_ _ | (refine Ext.setCell ?_ (by simp <;> omega) _) | refine Ext.trans ?_ (by assumption))))); clear hown' hg')
      go_roundw
      case rel => exact ⟨k + 1, by omega, by go_num, by rw [HTS.out, HE.out]; exact HO'.out, HX'.out⟩
      case measure => simp [intOf]; omega
    case neg =>
      obtain rfl : k = ns.length := by omega
      rw [show bb.take ns.length = bb by rw [← HBL.out, List.take_length]] at hown
      obtain ⟨g, cap, hv, hg, hglt⟩ := World.ownsRow.form hown (by rw [HBL.out]; omega)
      rw [HBL.out] at hv
      subst hv
      have HPO := Lib.hid hown; have HXT := Lib.hid hxt
      have hgs := hxt.size
      clear hown hxt
      go_wp2_with (at_make; refine list_makeB rfl (.tmp 37) (.tmp 37) rfl ns.length rfl rfl (by omega) ?_; intro W2 hM hx hlt2; have HP := Lib.hid (show Pk w W2 g cap wr.heap.size ns.length bb (List.replicate ns.length false) from ⟨HPO.out.ext (Ext.trans (by repeat (first | exact Ext.refl _ | assumption | refine Ext.alloc ?_ _ | refine Ext.drew ?_ | refine Ext.drewN ?_ _ | (refine Ext.setCell ?_ (by simp <;> omega) _) | refine Ext.trans ?_ (by assumption))) hx), OwnB.mono hM hgs, by omega, HXT.out.trans (Ext.trans (by repeat (first | exact Ext.refl _ | assumption | refine Ext.alloc ?_ _ | refine Ext.drew ?_ | refine Ext.drewN ?_ _ | (refine Ext.setCell ?_ (by simp <;> omega) _) | refine Ext.trans ?_ (by assumption))) hx)⟩); clear hM hx hlt2)
      generalize wr.heap.size = gM at *
      clear HPO HXT hgs hglt hg
      go_loopw [10] (fun _ W => ∃ t : Nat, t ≤ rn ∧ Pk w W g cap gM ns.length (bumpTo ord bb t) (markTo ns.length ord t)) (fun _ W => (total - sumW W g ns.length).toNat)
      case atStart => exact ⟨0, Nat.zero_le _, HP.out⟩
      case round =>
        obtain ⟨t, ht, hP⟩ := hrel
        have HP2 := Lib.hid hP; clear hP
        have hord : ∀ k, k < bb.length → ∃ j : Nat, j < bb.length ∧ ord.getD k 0 = j := fun k hk => by
          rw [HBL.out] at hk ⊢; exact HO.out.ix k hk
        have HSM : Hid (∀ t, t ≤ rn → sumZ (bumpTo ord bb t) ns.length = total - rn + t) := Lib.hid (fun t ht => by
          have h1 := bump_sum hord t (by rw [HBL.out]; omega)
          have h2 := HRS.out
          rw [HBL.out] at h1
          rw [h1]; omega)
        have HBT : Hid (∀ t, (bumpTo ord bb t).length = ns.length) := Lib.hid (fun t => by rw [bump_len, HBL.out])
        have HUB : Hid (∀ j, j < ns.length → 0 ≤ (bumpTo ord bb t).getD j 0 ∧ (bumpTo ord bb t).getD j 0 ≤ 1000001) := Lib.hid (fun j hj => by
          have h1 := HO.out.bump HBL.out j hj t (by omega)
          have h2 := HBB.out j hj
          rw [h1]
          split <;> omega)
        clear hord
        have cT : ∀ W, RI W (some ⟨g, 0, none⟩) ns.length (bumpTo ord bb t) → Calls Tryd.prog 80 #[.slice (some ⟨g, 0, none⟩) ns.length cap] W (Same (.int .i64 (sumZ (bumpTo ord bb t) ns.length)) W) := fun W h => by
          have := total_any (some ⟨g, 0, none⟩) cap (bumpTo ord bb t) W (by rw [HBT.out]; exact h) (by rw [HBT.out]; omega) (fun k hk => by rw [HBT.out] at hk; have := HUB.out k hk; omega)
          rwa [HBT.out] at this
        have HSO := Lib.hid (HSM.out t ht)
        rw [HSM.out t ht] at cT
        by_cases htl : t < rn
        case neg =>
          obtain rfl : t = rn := by omega
          rw [show total - (t : Int) + t = total by omega] at cT
          have d0 : ¬ total < total := by omega
          have CT := Lib.hid cT; clear cT
          have HE : Hid (billL total ns = bumpTo ord bb t) := Lib.hid (by rw [HBE.out, Int.toNat_natCast])
          go_wp2_with (go_at_call 80; refine Calls.mono (CT.out _ ?_) ?_; (exact (HP2.out.next (by repeat (first | exact Ext.refl _ | assumption | refine Ext.alloc ?_ _ | refine Ext.drew ?_ | refine Ext.drewN ?_ _ | (refine Ext.setCell ?_ (by simp <;> omega) _) | refine Ext.trans ?_ (by assumption)))).ri (HBT.out t) (by omega)); rintro e w9 ⟨rfl, rfl⟩)
          go_ret2
          rw [HR'.out]
          refine ⟨some ⟨g, 0, none⟩, cap, ?_, ?_, HP2.out.ext.trans (by repeat (first | exact Ext.refl _ | assumption | refine Ext.alloc ?_ _ | refine Ext.drew ?_ | refine Ext.drewN ?_ _ | (refine Ext.setCell ?_ (by simp <;> omega) _) | refine Ext.trans ?_ (by assumption)))⟩
          · simp only [HE.out, HBT.out]; rfl
          · simp only [HE.out]; exact (HP2.out.next (by repeat (first | exact Ext.refl _ | assumption | refine Ext.alloc ?_ _ | refine Ext.drew ?_ | refine Ext.drewN ?_ _ | (refine Ext.setCell ?_ (by simp <;> omega) _) | refine Ext.trans ?_ (by assumption)))).sl (HBT.out t) (by omega)
        case pos =>
          obtain ⟨c, hcn, hce⟩ := HO.out.ix t (by omega)
          have HBU : Hid (bumpTo ord bb (t + 1) = (bumpTo ord bb t).set c ((bumpTo ord bb t).getD c 0 + 1)) := Lib.hid (by rw [bumpTo, hce, Int.toNat_natCast])
          have HMK : Hid (markTo ns.length ord (t + 1) = (markTo ns.length ord t).set c true) := Lib.hid (by rw [markTo, hce, Int.toNat_natCast])
          have HPK : Hid (pick (markTo ns.length ord t) rem ns.length = (c : Int)) := Lib.hid (by rw [pick_ord HO.out t (by omega), hce])
          have HML : Hid ((markTo ns.length ord t).length = ns.length) := Lib.hid (mark_len _ _ _)
          have hub := HUB.out c hcn
          have HOL := Lib.hid (HBT.out t)
          clear hce
          generalize hS : total - (rn : Int) + t = S at cT
          have hS1 : S < total := by omega
          have HSS := Lib.hid hS; clear hS
          have CT := Lib.hid cT; clear cT
          generalize bumpTo ord bb t = ob at *
          generalize markTo ns.length ord t = mk at *
          go_wp2_with (go_at_call 80; refine Calls.mono (CT.out _ ?_) ?_; (exact (HP2.out.next (by repeat (first | exact Ext.refl _ | assumption | refine Ext.alloc ?_ _ | refine Ext.drew ?_ | refine Ext.drewN ?_ _ | (refine Ext.setCell ?_ (by simp <;> omega) _) | refine Ext.trans ?_ (by assumption)))).ri HOL.out (by omega)); rintro e w9 ⟨rfl, rfl⟩)
          go_loopw [10, 11] (fun p i W => ∃ j : Nat, j ≤ ns.length ∧ i = .int .i64 j ∧ p = .int .i64 (pick mk rem j) ∧ Pk w W g cap gM ns.length ob mk) (fun _ i _ => ns.length - (intOf i).toNat)
          case atStart => exact ⟨0, Nat.zero_le _, rfl, rfl, HP2.out.next (by repeat (first | exact Ext.refl _ | assumption | refine Ext.alloc ?_ _ | refine Ext.drew ?_ | refine Ext.drewN ?_ _ | (refine Ext.setCell ?_ (by simp <;> omega) _) | refine Ext.trans ?_ (by assumption)))⟩
          case round =>
            obtain ⟨j, hj, rfl, hpv, hP3⟩ := hrel
            have HP3 := Lib.hid hP3
            by_cases hjn : j < ns.length
            case neg =>
              obtain rfl : j = ns.length := by omega
              rw [HPK.out] at hpv
              subst hpv
              have hcm : c < mk.length := by rw [HML.out]; exact hcn
              have hco : c < ob.length := by rw [HOL.out]; exact hcn
              have k1 := (hP3.mark.at rfl c hcm).1
              have k2 := (hP3.mark.at rfl c hcm).2.1
              have k3 := (hP3.out.at rfl c hco).1
              have k4 := (hP3.out.at rfl c hco).2.1
              have n1 := hP3.ne
              have n2 := hP3.ne.symm
              have hci : (c : Int) < (ns.length : Int) := by omega
              have HNX := Lib.hid ((HP3.out.setM c true).setO c (ob.getD c 0 + 1))
              clear hcm hco hP3
              obtain ⟨y1, y2⟩ := hub
              have j1 : IntKind.i64.wrap (ob.getD c 0 + 1) = ob.getD c 0 + 1 := IntWalk.i64_in _ (by omega)
              generalize ob.getD c 0 = y at *
              go_wp2
              go_roundw
              case rel => exact ⟨t + 1, by omega, by rw [HBU.out, HMK.out]; exact HNX.out⟩
              case measure =>
                have h1 := HNX.out.sum (by rw [List.length_set, HOL.out])
                have h2 := HP2.out.sum HOL.out
                have h3 := HSM.out (t + 1) (by omega)
                have h4 := HSS.out
                rw [HBU.out] at h3
                rw [h2, HSO.out]
                first | rw [h1, h3] | (simp only [h1, h3])
                omega
            case pos =>
              subst hpv
              obtain ⟨b, off, rfl, hbw, hcell⟩ := (HX.out.ext hP3.ext).2.2 (by omega)
              have c1 := hcell j hjn
              have k1 := (hP3.mark.at rfl j (by rw [HML.out]; exact hjn)).1
              have hji : (j : Int) < (ns.length : Int) := by omega
              have HN : Hid (pick mk rem (j + 1) = if mk.getD j false = false ∧ (pick mk rem j < 0 ∨ rem (pick mk rem j).toNat < rem j) then (j : Int) else pick mk rem j) := Lib.hid rfl
              have hinv := pick_inv mk rem j
              by_cases hm : mk.getD j false = true
              case pos =>
                have HN' : Hid (pick mk rem (j + 1) = pick mk rem j) := Lib.hid (by rw [HN.out, if_neg (by rw [hm]; simp)])
                rw [hm] at k1
                clear hcell hP3 hm HN hinv
                generalize pick mk rem j = p at *
                go_wp2
                go_quiet (fail)
                go_wp2
                go_roundw
                case rel => exact ⟨j + 1, by omega, by go_num, by rw [HN'.out], HP3.out.next (by repeat (first | exact Ext.refl _ | assumption | refine Ext.alloc ?_ _ | refine Ext.drew ?_ | refine Ext.drewN ?_ _ | (refine Ext.setCell ?_ (by simp <;> omega) _) | refine Ext.trans ?_ (by assumption)))⟩
                case measure => simp [intOf]; omega
              case neg =>
              have hmf : mk.getD j false = false := by simpa using hm
              rw [hmf] at k1
              rcases hinv with ⟨hp, _⟩ | ⟨q, hq1, hq2, _, _⟩
              · have HN' : Hid (pick mk rem (j + 1) = (j : Int)) := Lib.hid (by rw [HN.out, if_pos ⟨hmf, .inl hp⟩])
                have d1 : decide (pick mk rem j < 0) = true := decide_eq_true hp
                clear hcell hP3 hm hmf HN
                generalize pick mk rem j = p at *
                go_wp2
                go_quiet (fail)
                go_wp2
                go_roundw
                case rel => exact ⟨j + 1, by omega, by go_num, by rw [HN'.out], HP3.out.next (by repeat (first | exact Ext.refl _ | assumption | refine Ext.alloc ?_ _ | refine Ext.drew ?_ | refine Ext.drewN ?_ _ | (refine Ext.setCell ?_ (by simp <;> omega) _) | refine Ext.trans ?_ (by assumption)))⟩
                case measure => simp [intOf]; omega
              · have c2 := hcell q (by omega)
                have hqi : (q : Int) < (ns.length : Int) := by omega
                have HRJ : Hid (rem j = total * ns.getD j 0 % al) := Lib.hid (HREM.out j)
                have HRQ : Hid (rem q = total * ns.getD q 0 % al) := Lib.hid (HREM.out q)
                obtain ⟨x1, x2⟩ := HBN.out j hjn
                obtain ⟨y1, y2⟩ := HBN.out q (by omega)
                rw [hq2, Int.toNat_natCast] at HN
                have hq0 : ¬ (q : Int) < 0 := by omega
                rw [hq2]
                clear hq2
                generalize ns.getD j 0 = x at *
                generalize ns.getD q 0 = y at *
                obtain ⟨p1, p2⟩ := mul_bd (show 0 ≤ total ∧ total ≤ 1000000 by omega) (show 0 ≤ x ∧ x ≤ 1000000 by omega)
                obtain ⟨p3, p4⟩ := mul_bd (show 0 ≤ total ∧ total ≤ 1000000 by omega) (show 0 ≤ y ∧ y ≤ 1000000 by omega)
                have q1 := IntWalk.i64_in (total * x) (by omega)
                have q2 := IntWalk.i64_in (total * y) (by omega)
                have t1 : (total * x).tmod al = total * x % al := Int.tmod_eq_emod_of_nonneg p1
                have t2 : (total * y).tmod al = total * y % al := Int.tmod_eq_emod_of_nonneg p3
                have m1 := Int.emod_nonneg (total * x) (show al ≠ 0 by omega)
                have m2 := Int.emod_nonneg (total * y) (show al ≠ 0 by omega)
                have m3 := Int.emod_lt_of_pos (total * x) (show 0 < al by omega)
                have m4 := Int.emod_lt_of_pos (total * y) (show 0 < al by omega)
                have q3 := IntWalk.i64_in (total * x % al) (by omega)
                have q4 := IntWalk.i64_in (total * y % al) (by omega)
                by_cases hr : total * y % al < total * x % al
                · have HN' : Hid (pick mk rem (j + 1) = (j : Int)) := Lib.hid (by rw [HN.out, if_pos ⟨hmf, .inr (by rw [HRJ.out, HRQ.out]; exact hr)⟩])
                  have d1 : decide (total * y % al < total * x % al) = true := decide_eq_true hr
                  clear hcell hP3 hm hmf HN
                  go_wp2
                  go_quiet (fail)
                  go_wp2
                  go_roundw
                  case rel => exact ⟨j + 1, by omega, by go_num, by rw [HN'.out], HP3.out.next (by repeat (first | exact Ext.refl _ | assumption | refine Ext.alloc ?_ _ | refine Ext.drew ?_ | refine Ext.drewN ?_ _ | (refine Ext.setCell ?_ (by simp <;> omega) _) | refine Ext.trans ?_ (by assumption)))⟩
                  case measure => simp [intOf]; omega
                · have HN' : Hid (pick mk rem (j + 1) = (q : Int)) := Lib.hid (by rw [HN.out, if_neg (fun hh => hh.2.elim (fun h => hq0 h) (fun h => hr (by rw [HRJ.out, HRQ.out] at h; exact h)))])
                  have d1 : decide (total * y % al < total * x % al) = false := decide_eq_false hr
                  clear hcell hP3 hm hmf HN
                  go_wp2
                  go_quiet (fail)
                  go_wp2
                  go_roundw
                  case rel => exact ⟨j + 1, by omega, by go_num, by rw [HN'.out], HP3.out.next (by repeat (first | exact Ext.refl _ | assumption | refine Ext.alloc ?_ _ | refine Ext.drew ?_ | refine Ext.drewN ?_ _ | (refine Ext.setCell ?_ (by simp <;> omega) _) | refine Ext.trans ?_ (by assumption)))⟩
                  case measure => simp [intOf]; omega
end Go.Proofs.YtiailnblfonhjaaDoor
