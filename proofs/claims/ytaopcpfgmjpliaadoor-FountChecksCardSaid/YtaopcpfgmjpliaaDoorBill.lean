/-
  Walk: BillFor, a bill of at most 19 sorts.
-/
import Derived.Test.YtaopcpfgmjpliaaDoorBillMem
namespace Go.Proofs.YtaopcpfgmjpliaaDoor
open Go.RowKit

set_option maxRecDepth 100000 in
set_option maxHeartbeats 4000000 in
theorem billFor_any (f : FT) (A : Option Addr) (c : Nat) (X : Option Addr) (cx : Nat) (ns : List Int) (total : Int) (w : World) (hf : FR w A c f) (hx : RI w X ns.length ns) (hl : caseErr f ns = 0 → ns.length ≤ 19) :
    Calls Tryd.prog 18 #[f.val A c, .slice X ns.length cx, .int .i64 total] w (RetSE (billR f ns total).1 (billR f ns total).2 w) := by
  have cC := fun Z W h1 h2 => check_any f A c Z 1 1 [⟨X, cx, ns⟩] W h1 h2
  rw [checkErr_one] at cC
  simp only at cC
  have HF := Lib.hid hf; have HX := Lib.hid hx; clear hf hx
  by_cases hz : caseErr f ns = 0
  case neg =>
    have HR : Hid (billR f ns total = ([], caseErr f ns)) := Lib.hid (by unfold billR; rw [if_pos hz])
    clear hl
    generalize billR f ns total = r at *
    generalize caseErr f ns = z at *
    have e0 : (z != 0) = true := by simpa using hz
    clear hz
    obtain ⟨name, body, ss⟩ := f
    simp only [FT.val] at *
    have CC := Lib.hid cC; clear cC
    go_enter Tryd.func18, Tryd.ntmps18
    go_wp2_with (first | (go_at_call 33; refine Calls.mono (CC.out _ _ ?_ ?_) ?_; (exact HF.out.ext (by repeat (first | exact Ext.refl _ | assumption | refine Ext.alloc ?_ _ | refine Ext.drew ?_ | refine Ext.drewN ?_ _ | (refine Ext.setCell ?_ (by simp <;> omega) _) | refine Ext.trans ?_ (by assumption)))); (exact RL.one (Blk.new3 _ _ _ _ _ _) (HX.out.ext (by repeat (first | exact Ext.refl _ | assumption | refine Ext.alloc ?_ _ | refine Ext.drew ?_ | refine Ext.drewN ?_ _ | (refine Ext.setCell ?_ (by simp <;> omega) _) | refine Ext.trans ?_ (by assumption))))); rintro e w1 ⟨rfl, hb⟩))
    go_ret2
    exact ⟨none, 0, by rw [HR.out]; rfl, by rw [HR.out]; exact SL.nil _ _, (by repeat (first | exact Ext.refl _ | assumption | refine Ext.alloc ?_ _ | refine Ext.drew ?_ | refine Ext.drewN ?_ _ | (refine Ext.setCell ?_ (by simp <;> omega) _) | refine Ext.trans ?_ (by assumption)))⟩
  case pos =>
  have hn := hl hz
  clear hl
  obtain ⟨hck, hcn⟩ := case_zero hz
  obtain ⟨l1, bn⟩ := counts_zero hcn
  obtain ⟨_, n1, _, _⟩ := chk_zero hck
  have hn1 : 1 ≤ ns.length := by omega
  have HBN := Lib.hid bn
  have hsum := sumTo_bd (fun k => ns.getD k 0) 1000000 ns.length bn
  have ha0 : 0 ≤ sumZ ns ns.length := hsum.1
  have ha1 : sumZ ns ns.length ≤ 1000000000 := by have := hsum.2; unfold sumZ; omega
  have cS := fun A c W h => sum_any A c ns W h (by omega) (fun k hk => by have := bn k hk; omega)
  have HR : Hid (billR f ns total = if ¬ (0 ≤ total ∧ total ≤ 1000000) then ([], 2) else if sumZ ns ns.length = 0 then ([], 11) else (billL total ns, 0)) := Lib.hid (by unfold billR; rw [if_neg (by rw [hz]; simp)])
  have HLL := Lib.hid (fun h => @billL_sum total ns h)
  rw [hz] at cC
  clear hz hck hcn l1 bn n1 hsum
  generalize billR f ns total = r at *
  obtain ⟨name, body, ss⟩ := f
  simp only [FT.val] at *
  have CC := Lib.hid cC; have CS := Lib.hid cS; clear cC cS
  by_cases ht : 0 ≤ total ∧ total ≤ 1000000
  case neg =>
    have HR' : Hid (r = ([], 2)) := Lib.hid (by rw [HR.out, if_pos ht])
    clear HR HLL
    generalize sumZ ns ns.length = all at *
    go_enter Tryd.func18, Tryd.ntmps18
    go_wp2_with (first | (go_at_call 35; refine Calls.mono (within_yes _ _ _ _ ?_) ?_; (omega); rintro e w1 ⟨rfl, rfl⟩) | (go_at_call 35; refine Calls.mono (within_no _ _ _ _ ?_) ?_; (omega); rintro e w1 ⟨rfl, rfl⟩) | (go_at_call 33; refine Calls.mono (CC.out _ _ ?_ ?_) ?_; (exact HF.out.ext (by repeat (first | exact Ext.refl _ | assumption | refine Ext.alloc ?_ _ | refine Ext.drew ?_ | refine Ext.drewN ?_ _ | (refine Ext.setCell ?_ (by simp <;> omega) _) | refine Ext.trans ?_ (by assumption)))); (exact RL.one (Blk.new3 _ _ _ _ _ _) (HX.out.ext (by repeat (first | exact Ext.refl _ | assumption | refine Ext.alloc ?_ _ | refine Ext.drew ?_ | refine Ext.drewN ?_ _ | (refine Ext.setCell ?_ (by simp <;> omega) _) | refine Ext.trans ?_ (by assumption))))); rintro e w1 ⟨rfl, hb⟩; obtain ⟨f4, _, f4l⟩ := ((((Blk.new1 _ _ _ _).alloc _).alloc _).ext hb).c1; obtain ⟨f5, _, f5l⟩ := (((Blk.new2 _ _ _ _ _).alloc _).ext hb).c1; have HW := Lib.hid (show Ext w w1 from Ext.trans (by repeat (first | exact Ext.refl _ | assumption | refine Ext.alloc ?_ _ | refine Ext.drew ?_ | refine Ext.drewN ?_ _ | (refine Ext.setCell ?_ (by simp <;> omega) _) | refine Ext.trans ?_ (by assumption))) hb); clear hb) | (go_at_call 34; refine Calls.mono (CS.out _ _ _ ?_) ?_; (exact HX.out.ext (HW.out.trans (by repeat (first | exact Ext.refl _ | assumption | refine Ext.alloc ?_ _ | refine Ext.drew ?_ | refine Ext.drewN ?_ _ | (refine Ext.setCell ?_ (by simp <;> omega) _) | refine Ext.trans ?_ (by assumption))))); rintro e w2 ⟨rfl, rfl⟩))
    go_ret2
    exact ⟨none, 0, by rw [HR'.out]; rfl, by rw [HR'.out]; exact SL.nil _ _, HW.out.trans (by repeat (first | exact Ext.refl _ | assumption | refine Ext.alloc ?_ _ | refine Ext.drew ?_ | refine Ext.drewN ?_ _ | (refine Ext.setCell ?_ (by simp <;> omega) _) | refine Ext.trans ?_ (by assumption)))⟩
  case pos =>
  obtain ⟨ht1, ht2⟩ := ht
  by_cases ha : sumZ ns ns.length = 0
  case pos =>
    have HR' : Hid (r = ([], 11)) := Lib.hid (by rw [HR.out, if_neg (by simp; omega), if_pos ha])
    rw [ha] at CS
    clear HR HLL ha0 ha1 ha
    go_enter Tryd.func18, Tryd.ntmps18
    go_wp2_with (first | (go_at_call 35; refine Calls.mono (within_yes _ _ _ _ ?_) ?_; (omega); rintro e w1 ⟨rfl, rfl⟩) | (go_at_call 35; refine Calls.mono (within_no _ _ _ _ ?_) ?_; (omega); rintro e w1 ⟨rfl, rfl⟩) | (go_at_call 33; refine Calls.mono (CC.out _ _ ?_ ?_) ?_; (exact HF.out.ext (by repeat (first | exact Ext.refl _ | assumption | refine Ext.alloc ?_ _ | refine Ext.drew ?_ | refine Ext.drewN ?_ _ | (refine Ext.setCell ?_ (by simp <;> omega) _) | refine Ext.trans ?_ (by assumption)))); (exact RL.one (Blk.new3 _ _ _ _ _ _) (HX.out.ext (by repeat (first | exact Ext.refl _ | assumption | refine Ext.alloc ?_ _ | refine Ext.drew ?_ | refine Ext.drewN ?_ _ | (refine Ext.setCell ?_ (by simp <;> omega) _) | refine Ext.trans ?_ (by assumption))))); rintro e w1 ⟨rfl, hb⟩; obtain ⟨f4, _, f4l⟩ := ((((Blk.new1 _ _ _ _).alloc _).alloc _).ext hb).c1; obtain ⟨f5, _, f5l⟩ := (((Blk.new2 _ _ _ _ _).alloc _).ext hb).c1; have HW := Lib.hid (show Ext w w1 from Ext.trans (by repeat (first | exact Ext.refl _ | assumption | refine Ext.alloc ?_ _ | refine Ext.drew ?_ | refine Ext.drewN ?_ _ | (refine Ext.setCell ?_ (by simp <;> omega) _) | refine Ext.trans ?_ (by assumption))) hb); clear hb) | (go_at_call 34; refine Calls.mono (CS.out _ _ _ ?_) ?_; (exact HX.out.ext (HW.out.trans (by repeat (first | exact Ext.refl _ | assumption | refine Ext.alloc ?_ _ | refine Ext.drew ?_ | refine Ext.drewN ?_ _ | (refine Ext.setCell ?_ (by simp <;> omega) _) | refine Ext.trans ?_ (by assumption))))); rintro e w2 ⟨rfl, rfl⟩))
    go_ret2
    exact ⟨none, 0, by rw [HR'.out]; rfl, by rw [HR'.out]; exact SL.nil _ _, HW.out.trans (by repeat (first | exact Ext.refl _ | assumption | refine Ext.alloc ?_ _ | refine Ext.drew ?_ | refine Ext.drewN ?_ _ | (refine Ext.setCell ?_ (by simp <;> omega) _) | refine Ext.trans ?_ (by assumption)))⟩
  case neg =>
  have hal : 1 ≤ sumZ ns ns.length := by omega
  have HR' : Hid (r = (billL total ns, 0)) := Lib.hid (by rw [HR.out, if_neg (by simp; omega), if_neg ha])
  have HRD := Lib.hid (rest_bd (total := total) (ns := ns) rfl hal)
  have HRS : Hid (restB total (sumZ ns ns.length) ns = total - sumZ (baseB total (sumZ ns ns.length) ns) ns.length) := Lib.hid rfl
  have HBE : Hid (billL total ns = bumpTo (ordL (ns.length - 1) (cfB (ns.length - 1) total (sumZ ns ns.length) ns)) (baseB total (sumZ ns ns.length) ns) (restB total (sumZ ns ns.length) ns).toNat) := Lib.hid rfl
  have HBL : Hid ((baseB total (sumZ ns ns.length) ns).length = ns.length) := Lib.hid (baseB_len _ _ _)
  have HBAT : Hid (∀ k, k < ns.length → (baseB total (sumZ ns ns.length) ns).getD k 0 = total * ns.getD k 0 / sumZ ns ns.length) := Lib.hid (fun k hk => baseB_at _ _ _ _ hk)
  have HBB : Hid (∀ k, k < ns.length → 0 ≤ (baseB total (sumZ ns ns.length) ns).getD k 0 ∧ (baseB total (sumZ ns ns.length) ns).getD k 0 ≤ 1000000) := Lib.hid (fun k hk => by
    rw [baseB_at _ _ _ _ hk]
    exact ⟨share_nonneg hal ht1 (fun k hk => (HBN.out k hk).1) k hk, Int.le_trans (share_le rfl hal ht1 (fun k hk => (HBN.out k hk).1) k hk) ht2⟩)
  have HOB : Hid (∀ k, k < ns.length → ∃ j : Nat, j < ns.length ∧ (ordL (ns.length - 1) (cfB (ns.length - 1) total (sumZ ns ns.length) ns)).getD k 0 = j) := Lib.hid (fun k hk => by
    obtain ⟨j, hj, he⟩ := ordL_bd (ns.length - 1) (cfB (ns.length - 1) total (sumZ ns ns.length) ns) k (by omega)
    exact ⟨j, by omega, he⟩)
  have CB := Lib.hid (fun W base g cap b5 b4 b9 h1 h2 h3 h4 h5 h6 h7 h8 h9 => sortBill (n := ns.length) W base g cap b5 b4 b9 total (sumZ ns ns.length) X cx ns rfl hn1 hn h1 h2 h3 h4 h5 h6 h7 h8 h9 ⟨ht1, ht2⟩ ⟨hal, ha1⟩ HBN.out)
  have HBU : Hid (∀ k j, k ≤ ns.length → j < ns.length → 0 ≤ (bumpTo (ordL (ns.length - 1) (cfB (ns.length - 1) total (sumZ ns ns.length) ns)) (baseB total (sumZ ns ns.length) ns) k).getD j 0 ∧ (bumpTo (ordL (ns.length - 1) (cfB (ns.length - 1) total (sumZ ns ns.length) ns)) (baseB total (sumZ ns ns.length) ns) k).getD j 0 ≤ 2000000) := Lib.hid (fun k j hk hj => by
    have hord : ∀ k, k < (baseB total (sumZ ns ns.length) ns).length → ∃ j : Nat, j < (baseB total (sumZ ns ns.length) ns).length ∧ (ordL (ns.length - 1) (cfB (ns.length - 1) total (sumZ ns ns.length) ns)).getD k 0 = j := fun k hk => by rw [HBL.out] at hk ⊢; exact HOB.out k hk
    have b0 := bump_bd hord (fun k hk => (HBB.out k (by rw [HBL.out] at hk; exact hk)).1) k (by rw [HBL.out]; exact hk)
    rw [HBL.out] at b0
    have b1 := bump_sum hord k (by rw [HBL.out]; exact hk)
    rw [HBL.out] at b1
    have b2 : (bumpTo (ordL (ns.length - 1) (cfB (ns.length - 1) total (sumZ ns ns.length) ns)) (baseB total (sumZ ns ns.length) ns) k).getD j 0 ≤ sumZ (bumpTo (ordL (ns.length - 1) (cfB (ns.length - 1) total (sumZ ns ns.length) ns)) (baseB total (sumZ ns ns.length) ns) k) ns.length := sumTo_one (fun i => (bumpTo (ordL (ns.length - 1) (cfB (ns.length - 1) total (sumZ ns ns.length) ns)) (baseB total (sumZ ns ns.length) ns) k).getD i 0) ns.length b0 j hj
    have b3 := HRS.out
    have b4 := HRD.out
    exact ⟨b0 j hj, by omega⟩)
  clear HR HLL ha ha0
  generalize ordL (ns.length - 1) (cfB (ns.length - 1) total (sumZ ns ns.length) ns) = ord at *
  generalize baseB total (sumZ ns ns.length) ns = bl at *
  generalize restB total (sumZ ns ns.length) ns = rr at *
  generalize sumZ ns ns.length = al at *
  have cO := fun A c W h => sum_any A c bl W h (by rw [HBL.out]; omega) (fun k hk => by have := HBB.out k (by rw [HBL.out] at hk; exact hk); omega)
  simp only [HBL.out] at cO
  have CO := Lib.hid cO; clear cO
  generalize sumZ bl ns.length = sb at *
  obtain ⟨rn, hrn⟩ : ∃ rn : Nat, rr = rn := ⟨rr.toNat, by have := HRD.out; omega⟩
  subst hrn
  have hrn2 : rn ≤ ns.length := by have := HRD.out; omega
  have e0 : (al == 0) = false := by simp; omega
  go_enter Tryd.func18, Tryd.ntmps18
  go_wp2_with (first | (go_at_call 35; refine Calls.mono (within_yes _ _ _ _ ?_) ?_; (omega); rintro e w1 ⟨rfl, rfl⟩) | (go_at_call 35; refine Calls.mono (within_no _ _ _ _ ?_) ?_; (omega); rintro e w1 ⟨rfl, rfl⟩) | (go_at_call 33; refine Calls.mono (CC.out _ _ ?_ ?_) ?_; (exact HF.out.ext (by repeat (first | exact Ext.refl _ | assumption | refine Ext.alloc ?_ _ | refine Ext.drew ?_ | refine Ext.drewN ?_ _ | (refine Ext.setCell ?_ (by simp <;> omega) _) | refine Ext.trans ?_ (by assumption)))); (exact RL.one (Blk.new3 _ _ _ _ _ _) (HX.out.ext (by repeat (first | exact Ext.refl _ | assumption | refine Ext.alloc ?_ _ | refine Ext.drew ?_ | refine Ext.drewN ?_ _ | (refine Ext.setCell ?_ (by simp <;> omega) _) | refine Ext.trans ?_ (by assumption))))); rintro e w1 ⟨rfl, hb⟩; obtain ⟨f4, _, f4l⟩ := ((((Blk.new1 _ _ _ _).alloc _).alloc _).ext hb).c1; obtain ⟨f5, _, f5l⟩ := (((Blk.new2 _ _ _ _ _).alloc _).ext hb).c1; have HW := Lib.hid (show Ext w w1 from Ext.trans (by repeat (first | exact Ext.refl _ | assumption | refine Ext.alloc ?_ _ | refine Ext.drew ?_ | refine Ext.drewN ?_ _ | (refine Ext.setCell ?_ (by simp <;> omega) _) | refine Ext.trans ?_ (by assumption))) hb); clear hb) | (go_at_call 34; refine Calls.mono (CS.out _ _ _ ?_) ?_; (exact HX.out.ext (HW.out.trans (by repeat (first | exact Ext.refl _ | assumption | refine Ext.alloc ?_ _ | refine Ext.drew ?_ | refine Ext.drewN ?_ _ | (refine Ext.setCell ?_ (by simp <;> omega) _) | refine Ext.trans ?_ (by assumption))))); rintro e w2 ⟨rfl, rfl⟩))
  go_loopw [10, 11, 34] (fun v u i wr => ∃ k : Nat, k ≤ ns.length ∧ i = .int .i64 k ∧ Two w (w.heap.size + 1) (w.heap.size + 1 + 1) w1.heap.size (w1.heap.size + 1) total al X ns.length cx wr v u (bl.take k) (ids k)) (fun _ _ i _ => ns.length - (intOf i).toNat)
  case atStart =>
    refine ⟨0, Nat.zero_le _, rfl, ⟨HW.out.trans (by repeat (first | exact Ext.refl _ | assumption | refine Ext.alloc ?_ _ | refine Ext.drew ?_ | refine Ext.drewN ?_ _ | (refine Ext.setCell ?_ (by simp <;> omega) _) | refine Ext.trans ?_ (by assumption))), ?_, ?_, ?_, by omega, by omega, by omega, by have := HW.out.size; omega, by simp⟩, Own.nil _ _, Own.nil _ _, fun g hg => by cases hg⟩
    · rw [(show Ext w1 _ from (by repeat (first | exact Ext.refl _ | assumption | refine Ext.alloc ?_ _ | refine Ext.drew ?_ | refine Ext.drewN ?_ _ | (refine Ext.setCell ?_ (by simp <;> omega) _) | refine Ext.trans ?_ (by assumption)))).cell (p := ⟨w.heap.size + 1, 0, none⟩) (by omega)]; exact f4
    · rw [(show Ext w1 _ from (by repeat (first | exact Ext.refl _ | assumption | refine Ext.alloc ?_ _ | refine Ext.drew ?_ | refine Ext.drewN ?_ _ | (refine Ext.setCell ?_ (by simp <;> omega) _) | refine Ext.trans ?_ (by assumption)))).cell (p := ⟨w.heap.size + 1 + 1, 0, none⟩) (by omega)]; exact f5
    · simp
  case round =>
    obtain ⟨k, hk, rfl, htwo⟩ := hrel
    have HT := Lib.hid htwo
    have hws : w1.heap.size + 1 ≤ wr.heap.size := htwo.bh.here
    have k4 := htwo.bh.c4
    have k5 := htwo.bh.c5
    have k9 := htwo.bh.c9
    by_cases hlt : k < ns.length
    case pos =>
      obtain ⟨b, off, rfl, hbw, hcell⟩ := (HX.out.ext htwo.bh.ext).2.2 (by omega)
      have c1 := hcell k hlt
      have hki : (k : Int) < (ns.length : Int) := by omega
      obtain ⟨x1, x2⟩ := HBN.out k hlt
      have p1 := mul_bd ⟨ht1, ht2⟩ ⟨x1, x2⟩
      have HBK := Lib.hid (take_snoc bl k (by rw [HBL.out]; exact hlt))
      have HE := Lib.hid (HBAT.out k hlt)
      have HLN : Hid ((bl.take k).length ≤ 1000000) := Lib.hid (by rw [List.length_take]; omega)
      have HIN : Hid ((ids k).length ≤ 1000000) := Lib.hid (by rw [ids_len]; omega)
      have HIS := Lib.hid (ids_snoc k)
      generalize ns.getD k 0 = x at *
      generalize bl.getD k 0 = y at *
      clear hcell htwo
      obtain ⟨p2, p3⟩ := p1
      have q1 := IntWalk.wrap64_in (total * x) ⟨by omega, by omega⟩
      go_wp2_with (first | (at_builtin; refine list_push2 rfl (.tmp 39) (.tmp 45) rfl (w1.heap.size + 1) _ (bl.take k) rfl (HT.out.one.ext (by repeat (first | exact Ext.refl _ | assumption | refine Ext.alloc ?_ _ | refine Ext.drew ?_ | refine Ext.drewN ?_ _ | (refine Ext.setCell ?_ (by simp <;> omega) _) | refine Ext.trans ?_ (by assumption)))) wr.heap.size (total * x / al) rfl (by simp) HLN.out (by simp; omega) ?_; intro v1 W1 hown1 hg1 hnew1; have HT1 := Lib.hid (HT.out.push1 (by repeat (first | exact Ext.refl _ | assumption | refine Ext.alloc ?_ _ | refine Ext.drew ?_ | refine Ext.drewN ?_ _ | (refine Ext.setCell ?_ (by simp <;> omega) _) | refine Ext.trans ?_ (by assumption))) hg1 hown1 hnew1); have hws1 : w1.heap.size + 1 ≤ W1.heap.size := HT1.out.bh.here; clear hown1 hg1 hnew1) | (at_builtin; refine list_push2 rfl (.tmp 47) (.tmp 49) rfl (w1.heap.size + 1) _ (ids k) rfl (HT1.out.two.ext (by repeat (first | exact Ext.refl _ | assumption | refine Ext.alloc ?_ _ | refine Ext.drew ?_ | refine Ext.drewN ?_ _ | (refine Ext.setCell ?_ (by simp <;> omega) _) | refine Ext.trans ?_ (by assumption)))) W1.heap.size (k : Int) rfl (by simp) HIN.out (by simp; omega) ?_; intro v2 W2 hown2 hg2 hnew2; have HT2 := Lib.hid (HT1.out.push2 (by repeat (first | exact Ext.refl _ | assumption | refine Ext.alloc ?_ _ | refine Ext.drew ?_ | refine Ext.drewN ?_ _ | (refine Ext.setCell ?_ (by simp <;> omega) _) | refine Ext.trans ?_ (by assumption))) hg2 hown2 hnew2); clear hown2 hg2 hnew2))
      go_roundw
      case rel => exact ⟨k + 1, by omega, by go_num, by rw [HBK.out, HE.out, HIS.out]; exact HT2.out⟩
      case measure => simp [intOf]; omega
    case neg =>
      obtain rfl : k = ns.length := by omega
      have hfull : bl.take ns.length = bl := List.take_of_length_le (by rw [HBL.out]; omega)
      rw [hfull] at htwo HT
      obtain ⟨b, off, rfl, hbw, _⟩ := HX.out.2.2 (by omega)
      obtain ⟨hh, capo, hv, _, _⟩ := World.ownsRow.form htwo.one (by rw [HBL.out]; omega)
      obtain ⟨gg, cap, hu, _, _⟩ := World.ownsRow.form htwo.two (by rw [ids_len]; omega)
      rw [HBL.out] at hv
      rw [ids_len] at hu
      subst hv hu
      have hcap1 := (htwo.two.at rfl 0 (by rw [ids_len]; omega)).2.2.2.1
      have CB1 := Lib.hid (CB.out wr (w1.heap.size + 1) gg cap (w.heap.size + 1 + 1) (w.heap.size + 1) w1.heap.size htwo.two htwo.bh.c5 htwo.bh.c4 htwo.bh.c9 htwo.bh.lt5 htwo.bh.lt4 htwo.bh.lt9 (fun a ha => by cases ha; have := HW.out.size; show b < _; omega) (HX.out.ext htwo.bh.ext))
      have hrs := HRS.out
      have q2 : wrap64 (total - sb) = (rn : Int) := by rw [hrs]; exact IntWalk.wrap64_in _ ⟨by omega, by omega⟩
      have q3 : IntKind.i64.wrap (total - sb) = (rn : Int) := by rw [hrs]; exact IntWalk.i64_in _ (by omega)
      have hrc : (rn : Int) ≤ (cap : Int) := by omega
      have hrc' : rn ≤ cap := by omega
      have hrc0 : (0 : Int) ≤ (rn : Int) := by omega
      clear hrs htwo hfull hbw hws k4 k5 k9 hcap1
      have hmf : ∀ (fn : Fn) (first cap : Array Value) (w : World), (Instr.makeFunc fn first cap).run Tryd.prog w = .ok (.func fn first cap) w := fun _ _ _ _ => rfl
      go_wp2_with (first | (go_at_call 22; refine Calls.mono CB1.out ?_; rintro e w3 ⟨rfl, hbut, hri⟩; have HU := Lib.hid (HT.out.sorted hbut hri); have u5 := HU.out.bh.c5; have HOR : Hid (∃ A c, Value.slice (some ⟨hh, 0, none⟩) ns.length capo = .slice A bl.length c ∧ bl.length ≤ c ∧ RI w3 A bl.length bl) := Lib.hid (HU.out.own.form (by rw [HBL.out]; omega)); clear hbut hri))
      have HRO : Hid (RI w3 (some ⟨hh, 0, none⟩) ns.length bl) := Lib.hid (by
        obtain ⟨A', c', hv, _, hr⟩ := HOR.out
        obtain ⟨e1, _, _⟩ := Value.slice.inj hv
        rw [← e1, HBL.out] at hr
        exact hr)
      go_quiet ((go_at_call 34; exact Same.quiet (CO.out _ _ _ (HRO.out.ext (by repeat (first | exact Ext.refl _ | assumption | refine Ext.alloc ?_ _ | refine Ext.drew ?_ | refine Ext.drewN ?_ _ | (refine Ext.setCell ?_ (by simp <;> omega) _) | refine Ext.trans ?_ (by assumption)))))))
      go_wp2
      go_loopw [62] (fun i wr => ∃ k : Nat, k ≤ rn ∧ i = .int .i64 k ∧ Up w (w.heap.size + 1) (w.heap.size + 1 + 1) w1.heap.size (w1.heap.size + 1) total al (some ⟨b, off, none⟩) ns.length cx wr hh gg capo (bumpTo ord bl k) ord) (fun i _ => rn - (intOf i).toNat)
      case atStart => exact ⟨0, Nat.zero_le _, rfl, HU.out.next (by repeat (first | exact Ext.refl _ | assumption | refine Ext.alloc ?_ _ | refine Ext.drew ?_ | refine Ext.drewN ?_ _ | (refine Ext.setCell ?_ (by simp <;> omega) _) | refine Ext.trans ?_ (by assumption)))⟩
      case round =>
        obtain ⟨k, hk, rfl, hup⟩ := hrel
        have HUP := Lib.hid hup
        by_cases hlt : k < rn
        case pos =>
          obtain ⟨j, hj, hoj⟩ := HOB.out k (by omega)
          obtain ⟨b', off', hbo, hbw', hcell⟩ := hup.ri.2.2 (by omega)
          have c1 := hcell k (by omega)
          rw [hoj] at c1
          cases hbo
          rw [Nat.zero_add] at c1
          have hlen : j < (bumpTo ord bl k).length := by rw [bump_len, HBL.out]; exact hj
          have c2 := (hup.own.at rfl j hlen).1
          have c3 := (hup.own.at rfl j hlen).2.1
          have HN : Hid (bumpTo ord bl (k + 1) = (bumpTo ord bl k).set j ((bumpTo ord bl k).getD j 0 + 1)) := Lib.hid (by rw [bumpTo, hoj, Int.toNat_natCast])
          have hbnd : 0 ≤ (bumpTo ord bl k).getD j 0 ∧ (bumpTo ord bl k).getD j 0 ≤ 2000000 := HBU.out k j (by omega) hj
          have hki : (k : Int) < (rn : Int) := by omega
          have hji : (j : Int) < (ns.length : Int) := by omega
          clear hcell hlen hoj hup
          generalize (bumpTo ord bl k).getD j 0 = y at *
          obtain ⟨hy1, hy2⟩ := hbnd
          go_wp2
          go_roundw
          case rel => exact ⟨k + 1, by omega, by go_num, by rw [HN.out]; exact HUP.out.set j (y + 1)⟩
          case measure => simp [intOf]; omega
        case neg =>
          obtain rfl : k = rn := by omega
          have HF2 : Hid (∃ A c, Value.slice (some ⟨hh, 0, none⟩) ns.length capo = .slice A (bumpTo ord bl k).length c ∧ (bumpTo ord bl k).length ≤ c ∧ RI wr A (bumpTo ord bl k).length (bumpTo ord bl k)) := Lib.hid (hup.own.form (by rw [bump_len, HBL.out]; omega))
          have HBX := Lib.hid hup.bh
          have HLX : Hid ((bumpTo ord bl k).length = ns.length) := Lib.hid (by rw [bump_len, HBL.out])
          have HRX : Hid (r = (bumpTo ord bl k, 0)) := Lib.hid (by rw [HR'.out, HBE.out, Int.toNat_natCast])
          clear hup
          go_wp2
          go_ret2
          obtain ⟨A', c', hv, hc, hr⟩ := HF2.out
          obtain ⟨e1, _, e3⟩ := Value.slice.inj hv
          refine ⟨some ⟨hh, 0, none⟩, capo, by rw [HRX.out]; simp only [HLX.out]; rfl, ?_, HBX.out.ext⟩
          rw [HRX.out]
          refine SL.mono (base := w1.heap.size + 1) ⟨?_, ?_, ?_⟩ HBX.out.base
          · simp only [HLX.out]; exact HUP.out.own
          · simp only; rw [e1]; exact hr
          · simp only; rw [e3]; exact hc
end Go.Proofs.YtaopcpfgmjpliaaDoor
