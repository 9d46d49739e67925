/-
  Walks: what a set lacks (page.stand.lacks), whether it stands.
-/
import Derived.Test.YtfbdklminljecaaGreatDoorPStand
namespace Go.Proofs.YtfbdklminljecaaGreatDoor
open Go.RowKit

set_option maxRecDepth 100000 in
set_option maxHeartbeats 8000000 in
theorem pLacks_any (s : ST) (X : Option Addr) (cx : Nat) (set : List Int) (w : World) (hs : SR w s) (hx : RI w X set.length set) (hr : Right s) (hp : Rise 0 s.ns.length set) :
    Calls Tryz.prog 48 #[s.val, .slice X set.length cx] w (Ret (lacksV s set) w) := by
  have hbig := hs.rc.big
  have hle := rise_len hp (by omega)
  have hfew := hr.few
  have HRX := Lib.hid hx; have HRC := Lib.hid hs.rc; have HRN := Lib.hid hs.rn
  have HCB := Lib.hid hr.case_
  have HUB := Lib.hid (fun k i => hr.use set k i)
  have HND := Lib.hid hr.need
  have HLN := Lib.hid hr.lens
  have HPR : Hid (∀ i, i < set.length → 0 ≤ set.getD i 0 ∧ set.getD i 0 < (s.ns.length : Int)) := Lib.hid fun i hi => hp.2 _ (by
    rw [List.getD_eq_getElem?_getD, List.getElem?_eq_getElem hi]; exact List.getElem_mem hi)
  have HNA : Hid (∀ n k, needAt s.zs n k = (s.ns.getD n.toNat SI.none_).zs.getD k 0) := Lib.hid fun n k => s.need n k
  have HUS : Hid (∀ k i, useK s.zs set k (i + 1) = useK s.zs set k i + needAt s.zs (set.getD i 0) k) := Lib.hid fun _ _ => rfl
  have HU0 : Hid (∀ k, useK s.zs set k 0 = 0) := Lib.hid fun _ => rfl
  have HV1 : Hid (∀ k, (∀ j, j < k → useK s.zs set j set.length ≤ s.cs.getD j 0) → k < s.cs.length → s.cs.getD k 0 < useK s.zs set k set.length → lacksV s set = .tuple #[.int .i64 (k : Int), .bool true]) := Lib.hid fun k h0 hk hb => by
    unfold lacksV
    rw [shortE_hit h0 hk hb, if_neg (by omega)]
    simp
  have HV0 : Hid ((∀ j, j < s.cs.length → useK s.zs set j set.length ≤ s.cs.getD j 0) → lacksV s set = .tuple #[.int .i64 0, .bool false]) := Lib.hid fun h => by
    unfold lacksV
    rw [shortE_zero.2 h, if_pos rfl]
  clear hs hx hr hp
  generalize lacksV s set = V at *
  obtain ⟨use, huse⟩ : ∃ use, use = useK s.zs set := ⟨_, rfl⟩
  rw [← huse] at HUB HUS HU0 HV1 HV0
  obtain ⟨need, hneed⟩ : ∃ need, need = needAt s.zs := ⟨_, rfl⟩
  rw [← hneed] at HND HNA HUS
  clear huse hneed
  obtain ⟨B, d, cs, D, e, ns⟩ := s
  simp only [ST.val] at *
  go_enter Tryz.func48, Tryz.ntmps48
  have HS1 : Hid (Blk (w.alloc (.cells #[.slice B cs.length d, .slice D ns.length e] 69)) w.heap.size 69 #[.slice B cs.length d, .slice D ns.length e]) := Lib.hid (Blk.new w _ _)
  go_wp2
  go_loopw [14] (fun j wr => ∃ k : Nat, k ≤ cs.length ∧ j = .int .i64 (k : Int) ∧ Hid (∀ j, j < k → use j set.length ≤ cs.getD j 0) ∧ Hid (Blk wr w.heap.size 69 #[.slice B cs.length d, .slice D ns.length e]) ∧ Hid (Ext w wr)) (fun j _ => cs.length - (intOf j).toNat)
  case atStart => exact ⟨0, Nat.zero_le _, rfl, Lib.hid (fun j hj => absurd hj (by omega)), HS1, Lib.hid (by repeat first | exact yx0 _ | assumption | refine yxa ?_ _ | refine yxd ?_ | refine yxn ?_ _ | refine yxs ?_ (by simp <;> omega) _ | refine yxt ?_ (by assumption))⟩
  case round =>
    obtain ⟨k, hk, rfl, H0, HS, HX⟩ := hrel
    clear HS1
    obtain ⟨m0, m1, _, _, ml⟩ := HS.out.c2
    by_cases hlt : k < cs.length
    case neg =>
      obtain rfl : k = cs.length := by omega
      have i3 : ¬ (cs.length : Int) < (cs.length : Int) := by omega
      have hV := HV0.out H0.out
      subst hV
      clear hlt
      go_wp2
      go_ret2
      exact Ret.mk' rfl (HX.out.trans (by repeat first | exact yx0 _ | assumption | refine yxa ?_ _ | refine yxd ?_ | refine yxn ?_ _ | refine yxs ?_ (by simp <;> omega) _ | refine yxt ?_ (by assumption)))
    case pos =>
      have i3 : (k : Int) < (cs.length : Int) := by omega
      obtain ⟨b, off, rfl, hbw, hcell⟩ := (HRC.out.ext HX.out).2.2 (by omega)
      have ci := hcell k hlt
      have hcb := HCB.out k hlt
      have HHV := Lib.hid (fun hb => HV1.out k H0.out hlt hb)
      have HNX : Hid (use k set.length ≤ cs.getD k 0 → ∀ j, j < k + 1 → use j set.length ≤ cs.getD j 0) := Lib.hid fun h j hj => by
        rcases Nat.lt_or_ge j k with h9 | h9
        · exact H0.out j h9
        · obtain rfl : j = k := by omega
          exact h
      have HUI := Lib.hid (fun i => HUB.out k i)
      have HUJ := Lib.hid (fun i => HUS.out k i)
      have hu0 := HU0.out k
      have HNK := Lib.hid (fun n => HNA.out n k)
      have HNB := Lib.hid (fun n => HND.out n k)
      clear hcell H0 HV1 HV0 HUB HUS HU0 HNA HND HCB
      generalize hcx : cs.getD k 0 = x at *
      generalize use k = u at *
      have HS1 := HS; have HX1 := HX
      go_wp2
      clear m0 m1 ml HS HX
      go_loopw [21, 7] (fun j v wr => ∃ i : Nat, i ≤ set.length ∧ j = .int .i64 (i : Int) ∧ v = .int .i64 (x - u i) ∧ Hid (Blk wr w.heap.size 69 #[.slice (some ⟨b, off, none⟩) cs.length d, .slice D ns.length e]) ∧ Hid (Ext w wr)) (fun j _ _ => set.length - (intOf j).toNat)
      case atStart => exact ⟨0, Nat.zero_le _, rfl, by rw [hu0]; simp, HS1, HX1⟩
      case round =>
        obtain ⟨i, hi, rfl, rfl, HS, HX⟩ := hrel
        clear HS1 HX1
        obtain ⟨m0, m1, _, _, ml⟩ := HS.out.c2
        have hub := HUI.out i
        by_cases hil : i < set.length
        case pos =>
          have i4 : (i : Int) < (set.length : Int) := by omega
          obtain ⟨sb, so, rfl, hsb, hsc⟩ := (HRX.out.ext HX.out).2.2 (by omega)
          have si := hsc i hil
          obtain ⟨p1, p2⟩ := HPR.out i hil
          have huj := HUJ.out i
          have hnk := HNK.out (set.getD i 0)
          have hnb := HNB.out (set.getD i 0)
          generalize set.getD i 0 = p at *
          obtain ⟨q, rfl⟩ : ∃ q : Nat, p = (q : Int) := ⟨p.toNat, by omega⟩
          have hql : q < ns.length := by omega
          have hln := HLN.out q hql
          obtain ⟨nb, no, rfl, hnbw, hnc⟩ := (HRN.out.ext HX.out).2.2.1 (by omega)
          have nq := hnc q hql
          have hri := (HRN.out.ext HX.out).2.2.2 q hql
          rw [Int.toNat_natCast] at hnk
          generalize ns.getD q SI.none_ = r at *
          obtain ⟨rA, rc, zs⟩ := r
          simp only [SI.val] at *
          obtain ⟨zb, zo, rfl, hzb, hzc⟩ := hri.2.2 (by omega)
          have zk := hzc k (by omega)
          have hzl : (k : Int) < (zs.length : Int) := by omega
          rw [← hnk] at zk
          generalize need (q : Int) k = y at *
          have hub2 := HUI.out (i + 1)
          have hw : IntKind.i64.wrap (x - u i - y) = x - u (i + 1) := by rw [IntWalk.i64_in _ (by omega)]; omega
          clear hsc hnc hzc hri hnk
          go_wp2
          go_roundw
          case rel => exact ⟨i + 1, by omega, by go_num, by rw [huj], HS, HX⟩
          case measure => simp [intOf] <;> omega
        case neg =>
          obtain rfl : i = set.length := by omega
          have i4 : ¬ (set.length : Int) < (set.length : Int) := by omega
          by_cases hb : x < u set.length
          case pos =>
            have hV := HHV.out hb
            have i5 : x - u set.length < 0 := by omega
            subst hV
            go_wp2
            go_ret2
            exact Ret.mk' rfl (HX.out.trans (by repeat first | exact yx0 _ | assumption | refine yxa ?_ _ | refine yxd ?_ | refine yxn ?_ _ | refine yxs ?_ (by simp <;> omega) _ | refine yxt ?_ (by assumption)))
          case neg =>
            have i5 : ¬ x - u set.length < 0 := by omega
            have HN2 := Lib.hid (HNX.out (by omega))
            go_wp2
            go_roundw
            case rel => exact ⟨k + 1, by omega, by go_num, HN2, HS, HX⟩
            case measure => simp [intOf] <;> omega
def standsB (s : ST) (set : List Int) : Bool := decide (shortE s.cs s.zs set = 0)
set_option maxRecDepth 100000 in
set_option maxHeartbeats 4000000 in
theorem pStands_any (s : ST) (X : Option Addr) (cx : Nat) (set : List Int) (w : World) (hs : SR w s) (hx : RI w X set.length set) (hr : Right s) (hp : Rise 0 s.ns.length set) :
    Calls Tryz.prog 30 #[s.val, .slice X set.length cx] w (Ret (.bool (standsB s set)) w) := by
  have cL := fun W h1 h2 => pLacks_any s X cx set W h1 h2 hr hp
  have HS := Lib.hid hs; have HRX := Lib.hid hx
  have hV : ∃ k b, lacksV s set = .tuple #[.int .i64 k, .bool b] ∧ standsB s set = !b := by
    unfold lacksV standsB
    by_cases h : shortE s.cs s.zs set = 0
    · exact ⟨0, false, by rw [if_pos h], by simp [h]⟩
    · exact ⟨_, true, by rw [if_neg h], by simp [h]⟩
  clear hs hx hr hp
  obtain ⟨k, b, h1, h2⟩ := hV
  rw [h1] at cL
  rw [h2]
  clear h1 h2
  obtain ⟨B, d, cs, D, e, ns⟩ := s
  simp only [ST.val] at *
  have CL := Lib.hid cL; clear cL
  go_enter Tryz.func30, Tryz.ntmps30
  go_wp2_with (first | (go_at_call 48; refine Calls.mono (CL.out _ (HS.out.ext (by repeat first | exact yx0 _ | assumption | refine yxa ?_ _ | refine yxd ?_ | refine yxn ?_ _ | refine yxs ?_ (by simp <;> omega) _ | refine yxt ?_ (by assumption))) (HRX.out.ext (by repeat first | exact yx0 _ | assumption | refine yxa ?_ _ | refine yxd ?_ | refine yxn ?_ _ | refine yxs ?_ (by simp <;> omega) _ | refine yxt ?_ (by assumption)))) ?_; rintro e9 w1 ⟨rfl, hb⟩; have HB9 := Lib.hid hb; clear hb))
  go_ret
  exact Ret.mk' rfl (Ext.trans (Ext.trans (by repeat first | exact yx0 _ | assumption | refine yxa ?_ _ | refine yxd ?_ | refine yxn ?_ _ | refine yxs ?_ (by simp <;> omega) _ | refine yxt ?_ (by assumption)) HB9.out) (by repeat first | exact yx0 _ | assumption | refine yxa ?_ _ | refine yxd ?_ | refine yxn ?_ _ | refine yxs ?_ (by simp <;> omega) _ | refine yxt ?_ (by assumption)))
end Go.Proofs.YtfbdklminljecaaGreatDoor
