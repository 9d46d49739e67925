/-
  Walk: PageFewer returns true.
-/
import Derived.Test.YtfkjhgcablakgaaGreatDoorStHelp
import Derived.Test.YtfkjhgcablakgaaGreatDoorExclSt
import Derived.Test.YtfkjhgcablakgaaGreatDoorRWith
namespace Go.Proofs.YtfkjhgcablakgaaGreatDoor
open Go.RowKit
/-- Whether a list has a number. -/
def hasTo (zs : List Int) (x : Int) : Nat → Bool
  | 0 => false
  | k + 1 => hasTo zs x k || decide (zs.getD k 0 = x)
theorem hasTo_iff (zs : List Int) (x : Int) : ∀ k, hasTo zs x k = true ↔ ∃ i, i < k ∧ zs.getD i 0 = x
  | 0 => by simp [hasTo]
  | k + 1 => by
    rw [hasTo, Bool.or_eq_true, hasTo_iff zs x k, decide_eq_true_eq]
    constructor
    · rintro (⟨i, h1, h2⟩ | h)
      · exact ⟨i, by omega, h2⟩
      · exact ⟨k, by omega, h⟩
    · rintro ⟨i, h1, h2⟩
      rcases Nat.lt_or_ge i k with h3 | h3
      · exact .inl ⟨i, h3, h2⟩
      · obtain rfl : i = k := by omega
        exact .inr h2
def hasB (zs : List Int) (x : Int) : Bool := hasTo zs x zs.length
theorem hasB_iff {zs : List Int} {x : Int} : hasB zs x = true ↔ x ∈ zs := by
  unfold hasB
  rw [hasTo_iff, List.mem_iff_getElem]
  constructor
  · rintro ⟨i, h1, h2⟩
    refine ⟨i, h1, ?_⟩
    rw [List.getD_eq_getElem?_getD, List.getElem?_eq_getElem h1] at h2; exact h2
  · rintro ⟨i, h1, h2⟩
    refine ⟨i, h1, ?_⟩
    rw [List.getD_eq_getElem?_getD, List.getElem?_eq_getElem h1]; exact h2
theorem hasB_hit {zs : List Int} {x : Int} {k : Nat} (hk : k < zs.length) (h : zs.getD k 0 = x) : hasB zs x = true := (hasTo_iff zs x zs.length).2 ⟨k, hk, h⟩
theorem hasB_none {zs : List Int} {x : Int} (h : ∀ k, k < zs.length → zs.getD k 0 ≠ x) : hasB zs x = false := by
  rw [← Bool.not_eq_true]
  intro h1
  obtain ⟨i, h2, h3⟩ := (hasTo_iff zs x zs.length).1 h1
  exact h i h2 h3
set_option maxRecDepth 100000 in
set_option maxHeartbeats 4000000 in
theorem has_any (X : Option Addr) (c : Nat) (zs : List Int) (x : Int) (w : World) (h : RI w X zs.length zs) : Calls Tryz.prog 28 #[.slice X zs.length c, .int .i64 x] w (Ret (.bool (hasB zs x)) w) := by
  have hbig := h.big
  have HR := Lib.hid h; clear h
  have HV1 := Lib.hid (fun k => hasB_hit (zs := zs) (x := x) (k := k))
  have HV0 := Lib.hid (hasB_none (zs := zs) (x := x))
  generalize hasB zs x = V at *
  go_enter Tryz.func28, Tryz.ntmps28
  go_wp2
  go_loopw [5] (fun j wr => ∃ k : Nat, k ≤ zs.length ∧ j = .int .i64 (k : Int) ∧ w = wr ∧ Hid (∀ q, q < k → zs.getD q 0 ≠ x)) (fun j _ => zs.length - (intOf j).toNat)
  case atStart => exact ⟨0, Nat.zero_le _, rfl, rfl, Lib.hid (fun q hq => absurd hq (by omega))⟩
  case round =>
    obtain ⟨k, hk, rfl, rfl, H0⟩ := hrel
    by_cases hlt : k < zs.length
    case neg =>
      obtain rfl : k = zs.length := by omega
      have i1 : ¬ (zs.length : Int) < (zs.length : Int) := by omega
      have hv := HV0.out H0.out
      subst hv
      go_wp2
      go_ret
      exact Ret.mk' rfl (by repeat first | exact yx0 _ | assumption | refine yxa ?_ _ | refine yxd ?_ | refine yxn ?_ _ | refine yxs ?_ (by simp <;> omega) _ | refine yxt ?_ (by assumption))
    case pos =>
      have i1 : (k : Int) < (zs.length : Int) := by omega
      obtain ⟨b, off, rfl, hbw, hcell⟩ := HR.out.2.2 (by omega)
      have ck := hcell k hlt
      have HHK := Lib.hid (fun h => HV1.out k hlt h)
      have HNX : Hid (zs.getD k 0 ≠ x → ∀ q, q < k + 1 → zs.getD q 0 ≠ x) := Lib.hid fun h q hq => by
        rcases Nat.lt_or_ge q k with h9 | h9
        · exact H0.out q h9
        · obtain rfl : q = k := by omega
          exact h
      clear hcell H0 HV1 HV0
      generalize zs.getD k 0 = y at *
      by_cases hb : y = x
      case pos =>
        have hv := HHK.out hb
        have e0 : (y == x) = true := by rw [beq_iff_eq]; exact hb
        subst hv
        clear hb
        go_wp2
        go_ret
        exact Ret.mk' rfl (by repeat first | exact yx0 _ | assumption | refine yxa ?_ _ | refine yxd ?_ | refine yxn ?_ _ | refine yxs ?_ (by simp <;> omega) _ | refine yxt ?_ (by assumption))
      case neg =>
        have e0 : (y == x) = false := by rw [beq_eq_false_iff_ne]; exact hb
        have HN2 := Lib.hid (HNX.out hb)
        clear hb
        go_wp2
        go_roundw
        case rel => exact ⟨k + 1, by omega, by go_num, by trivial, HN2⟩
        case measure => simp [intOf] <;> omega
def allTo (set l : List Int) : Nat → Bool
  | 0 => true
  | i + 1 => allTo set l i && hasB set (l.getD i 0)
theorem allTo_true (set l : List Int) : ∀ n, allTo set l n = true → ∀ i, i < n → l.getD i 0 ∈ set
  | n + 1, h, i, hi => by
    rw [allTo, Bool.and_eq_true] at h
    rcases Nat.lt_or_ge i n with h1 | h1
    · exact allTo_true set l n h.1 i h1
    · obtain rfl : i = n := by omega
      exact hasB_iff.1 h.2
theorem allTo_false {set l : List Int} (h : ¬ ∀ x ∈ l, x ∈ set) : allTo set l l.length = false := by
  rw [← Bool.not_eq_true]
  intro h1
  refine h fun x hx => ?_
  obtain ⟨i, hi, he⟩ := List.mem_iff_getElem.1 hx
  have := allTo_true set l l.length h1 i hi
  rw [List.getD_eq_getElem?_getD, List.getElem?_eq_getElem hi] at this
  rw [← he]; exact this
theorem setE_rise {n : Nat} {l : List Int} (h : Rise 0 n l) : setE n l = 0 := setE_ok (fun k hk => h.2 _ (by
    rw [List.getD_eq_getElem?_getD, List.getElem?_eq_getElem hk]; exact List.getElem_mem hk)) fun k h0 hk => by
  have h1 := List.pairwise_iff_getElem.1 h.1 (k - 1) k (by omega) hk (by omega)
  rw [List.getD_eq_getElem?_getD, List.getElem?_eq_getElem (by omega), List.getD_eq_getElem?_getD, List.getElem?_eq_getElem hk]
  exact h1
theorem exvL_same {f : FT} {s t : ST} (h1 : t.cs = s.cs) (h2 : t.zs = s.zs) : exvL f t = exvL f s ∧ exvN f t = exvN f s ∧ exvE f t = exvE f s := by
  unfold exvL exvN exvE lstV; rw [h1, h2, st_len h2]; exact ⟨rfl, rfl, rfl⟩
theorem mostV_same {f : FT} {s t : ST} (h1 : t.cs = s.cs) (h2 : t.zs = s.zs) : mostV f t = mostV f s := by unfold mostV; rw [h1, h2, st_len h2]
end Go.Proofs.YtfkjhgcablakgaaGreatDoor
namespace Go.Proofs.YtfkjhgcablakgaaGreatDoor.pagefewer
open Go.RowKit
attribute [local go_sem ↓] Go.wp_at_zero Go.wp_at_succ

set_option maxRecDepth 100000 in
set_option maxHeartbeats 32000000 in
theorem walk (f : FT) (A : Option Addr) (c : Nat) (s : ST) (X : Option Addr) (cx : Nat) (set : List Int) (w : World) (hf : FR w A c f) (hs : SR w s) (hx : RI w X set.length set) (hc : set.length ≤ cx) (hT : Tab5 w) :
    Calls Tryz.prog 5 #[f.val A c, s.val, .slice X set.length cx] w (Ret (.bool true) w) := by
  have hbig := hx.big
  have CA := Lib.hid (fun W h => awake5_any W h)
  have cFW := fun W h => few_any f A c W h
  have HT := Lib.hid hT; have HF := Lib.hid hf; have HSR := Lib.hid hs; have HRX := Lib.hid hx
  clear hT hf hs hx
  by_cases hfw : fewB f = true
  case neg =>
    rw [Bool.not_eq_true] at hfw
    rw [hfw] at cFW
    obtain ⟨name, body, ss⟩ := f
    obtain ⟨B, d, cs, D, e, ns⟩ := s
    simp only [ST.val, FT.val] at *
    have CFW := Lib.hid cFW; clear cFW hfw
    go_enter Tryz.func5, Tryz.ntmps5
    obtain ⟨wq, hwq⟩ : ∃ wq, (w.alloc (.cells #[.string name, .int .i64 body, .slice A ss.length c] 24)).alloc (.cells #[.slice B cs.length d, .slice D ns.length e] 45) = wq := ⟨_, rfl⟩
    have HB : Hid (Blk wq w.heap.size 24 #[.string name, .int .i64 body, .slice A ss.length c]) := Lib.hid (by rw [← hwq]; exact (Blk.new w _ _).alloc _)
    have HS : Hid (Blk wq (w.heap.size + 1) 45 #[.slice B cs.length d, .slice D ns.length e]) := Lib.hid (by rw [← hwq]; exact Blk.new1 w _ _ _)
    have HX : Hid (Ext w wq) := Lib.hid (by rw [← hwq]; exact (by repeat first | exact yx0 _ | assumption | refine yxa ?_ _ | refine yxd ?_ | refine yxn ?_ _ | refine yxs ?_ (by simp <;> omega) _ | refine yxt ?_ (by assumption)))
    go_upto_region 1 with fail
    (try rw [hwq])
    clear hwq
    obtain ⟨k0, k1, k2, kl⟩ := HB.out.c3; obtain ⟨m0, m1, _, _, ml⟩ := HS.out.c2
    go_wp2_with (first | (go_at_call 8; refine Calls.mono (CA.out _ (HT.out.ext (HX.out.trans (by repeat first | exact yx0 _ | assumption | refine yxa ?_ _ | refine yxd ?_ | refine yxn ?_ _ | refine yxs ?_ (by simp <;> omega) _ | refine yxt ?_ (by assumption))))) ?_; rintro e9 w1 ⟨rfl, hb⟩; have hq := yxx HX.out (by repeat first | exact yx0 _ | assumption | refine yxa ?_ _ | refine yxd ?_ | refine yxn ?_ _ | refine yxs ?_ (by simp <;> omega) _ | refine yxt ?_ (by assumption)) hb; have HB9 := Lib.hid (HB.out.ext hq); have HS9 := Lib.hid (HS.out.ext hq); have HX9 := Lib.hid (HX.out.trans hq); clear k0 k1 k2 kl m0 m1 ml HB HS HX; have HB := HB9; have HS := HS9; have HX := HX9; clear HB9 HS9 HX9; obtain ⟨k0, k1, k2, kl⟩ := HB.out.c3; obtain ⟨m0, m1, _, _, ml⟩ := HS.out.c2; (try (have q9 := Lib.hid (HCF.out.ext hq); clear HCF; have HCF := q9; clear q9)); (try (have q9 := Lib.hid (HCS.out.ext hq); clear HCS; have HCS := q9; clear q9)); (try (have q9 := Lib.hid (HCI.out.ext hq); clear HCI; have HCI := q9; clear q9)); (try (have q9 := Lib.hid (HPT.out.ext hq); clear HPT; have HPT := q9; clear q9)); (try (have q9 := Lib.hid (HLI.out.ext hq); clear HLI; have HLI := q9; clear q9)); (try (have q9 := Lib.hid (HXI.out.ext hq); clear HXI; have HXI := q9; clear q9)); clear hq; clear hb) | (go_at_call 17; refine Calls.mono (CFW.out _ (HF.out.ext (HX.out.trans (by repeat first | exact yx0 _ | assumption | refine yxa ?_ _ | refine yxd ?_ | refine yxn ?_ _ | refine yxs ?_ (by simp <;> omega) _ | refine yxt ?_ (by assumption))))) ?_; rintro e9 w1 ⟨rfl, hb⟩; have hq := yxx HX.out (by repeat first | exact yx0 _ | assumption | refine yxa ?_ _ | refine yxd ?_ | refine yxn ?_ _ | refine yxs ?_ (by simp <;> omega) _ | refine yxt ?_ (by assumption)) hb; have HB9 := Lib.hid (HB.out.ext hq); have HS9 := Lib.hid (HS.out.ext hq); have HX9 := Lib.hid (HX.out.trans hq); clear k0 k1 k2 kl m0 m1 ml HB HS HX; have HB := HB9; have HS := HS9; have HX := HX9; clear HB9 HS9 HX9; obtain ⟨k0, k1, k2, kl⟩ := HB.out.c3; obtain ⟨m0, m1, _, _, ml⟩ := HS.out.c2; (try (have q9 := Lib.hid (HCF.out.ext hq); clear HCF; have HCF := q9; clear q9)); (try (have q9 := Lib.hid (HCS.out.ext hq); clear HCS; have HCS := q9; clear q9)); (try (have q9 := Lib.hid (HCI.out.ext hq); clear HCI; have HCI := q9; clear q9)); (try (have q9 := Lib.hid (HPT.out.ext hq); clear HPT; have HPT := q9; clear q9)); (try (have q9 := Lib.hid (HLI.out.ext hq); clear HLI; have HLI := q9; clear q9)); (try (have q9 := Lib.hid (HXI.out.ext hq); clear HXI; have HXI := q9; clear q9)); clear hq; clear hb))
    go_ret
    exact Ret.mk' (by first | rfl | simp) (HX.out.trans (by repeat first | exact yx0 _ | assumption | refine yxa ?_ _ | refine yxd ?_ | refine yxn ?_ _ | refine yxs ?_ (by simp <;> omega) _ | refine yxt ?_ (by assumption)))
  case pos =>
  rw [hfw] at cFW
  by_cases hsf : FewS s
  case neg =>
    have cSF := fun W h => sFew_no s W h hsf
    obtain ⟨name, body, ss⟩ := f
    obtain ⟨B, d, cs, D, e, ns⟩ := s
    simp only [ST.val, FT.val] at *
    have CFW := Lib.hid cFW; have CSF := Lib.hid cSF; clear cFW cSF hfw hsf
    go_enter Tryz.func5, Tryz.ntmps5
    obtain ⟨wq, hwq⟩ : ∃ wq, (w.alloc (.cells #[.string name, .int .i64 body, .slice A ss.length c] 24)).alloc (.cells #[.slice B cs.length d, .slice D ns.length e] 45) = wq := ⟨_, rfl⟩
    have HB : Hid (Blk wq w.heap.size 24 #[.string name, .int .i64 body, .slice A ss.length c]) := Lib.hid (by rw [← hwq]; exact (Blk.new w _ _).alloc _)
    have HS : Hid (Blk wq (w.heap.size + 1) 45 #[.slice B cs.length d, .slice D ns.length e]) := Lib.hid (by rw [← hwq]; exact Blk.new1 w _ _ _)
    have HX : Hid (Ext w wq) := Lib.hid (by rw [← hwq]; exact (by repeat first | exact yx0 _ | assumption | refine yxa ?_ _ | refine yxd ?_ | refine yxn ?_ _ | refine yxs ?_ (by simp <;> omega) _ | refine yxt ?_ (by assumption)))
    go_upto_region 1 with fail
    (try rw [hwq])
    clear hwq
    obtain ⟨k0, k1, k2, kl⟩ := HB.out.c3; obtain ⟨m0, m1, _, _, ml⟩ := HS.out.c2
    go_wp2_with (first | (go_at_call 8; refine Calls.mono (CA.out _ (HT.out.ext (HX.out.trans (by repeat first | exact yx0 _ | assumption | refine yxa ?_ _ | refine yxd ?_ | refine yxn ?_ _ | refine yxs ?_ (by simp <;> omega) _ | refine yxt ?_ (by assumption))))) ?_; rintro e9 w1 ⟨rfl, hb⟩; have hq := yxx HX.out (by repeat first | exact yx0 _ | assumption | refine yxa ?_ _ | refine yxd ?_ | refine yxn ?_ _ | refine yxs ?_ (by simp <;> omega) _ | refine yxt ?_ (by assumption)) hb; have HB9 := Lib.hid (HB.out.ext hq); have HS9 := Lib.hid (HS.out.ext hq); have HX9 := Lib.hid (HX.out.trans hq); clear k0 k1 k2 kl m0 m1 ml HB HS HX; have HB := HB9; have HS := HS9; have HX := HX9; clear HB9 HS9 HX9; obtain ⟨k0, k1, k2, kl⟩ := HB.out.c3; obtain ⟨m0, m1, _, _, ml⟩ := HS.out.c2; (try (have q9 := Lib.hid (HCF.out.ext hq); clear HCF; have HCF := q9; clear q9)); (try (have q9 := Lib.hid (HCS.out.ext hq); clear HCS; have HCS := q9; clear q9)); (try (have q9 := Lib.hid (HCI.out.ext hq); clear HCI; have HCI := q9; clear q9)); (try (have q9 := Lib.hid (HPT.out.ext hq); clear HPT; have HPT := q9; clear q9)); (try (have q9 := Lib.hid (HLI.out.ext hq); clear HLI; have HLI := q9; clear q9)); (try (have q9 := Lib.hid (HXI.out.ext hq); clear HXI; have HXI := q9; clear q9)); clear hq; clear hb) | (go_at_call 17; refine Calls.mono (CFW.out _ (HF.out.ext (HX.out.trans (by repeat first | exact yx0 _ | assumption | refine yxa ?_ _ | refine yxd ?_ | refine yxn ?_ _ | refine yxs ?_ (by simp <;> omega) _ | refine yxt ?_ (by assumption))))) ?_; rintro e9 w1 ⟨rfl, hb⟩; have hq := yxx HX.out (by repeat first | exact yx0 _ | assumption | refine yxa ?_ _ | refine yxd ?_ | refine yxn ?_ _ | refine yxs ?_ (by simp <;> omega) _ | refine yxt ?_ (by assumption)) hb; have HB9 := Lib.hid (HB.out.ext hq); have HS9 := Lib.hid (HS.out.ext hq); have HX9 := Lib.hid (HX.out.trans hq); clear k0 k1 k2 kl m0 m1 ml HB HS HX; have HB := HB9; have HS := HS9; have HX := HX9; clear HB9 HS9 HX9; obtain ⟨k0, k1, k2, kl⟩ := HB.out.c3; obtain ⟨m0, m1, _, _, ml⟩ := HS.out.c2; (try (have q9 := Lib.hid (HCF.out.ext hq); clear HCF; have HCF := q9; clear q9)); (try (have q9 := Lib.hid (HCS.out.ext hq); clear HCS; have HCS := q9; clear q9)); (try (have q9 := Lib.hid (HCI.out.ext hq); clear HCI; have HCI := q9; clear q9)); (try (have q9 := Lib.hid (HPT.out.ext hq); clear HPT; have HPT := q9; clear q9)); (try (have q9 := Lib.hid (HLI.out.ext hq); clear HLI; have HLI := q9; clear q9)); (try (have q9 := Lib.hid (HXI.out.ext hq); clear HXI; have HXI := q9; clear q9)); clear hq; clear hb) | (go_at_call 18; refine Calls.mono (CSF.out _ (HSR.out.ext (HX.out.trans (by repeat first | exact yx0 _ | assumption | refine yxa ?_ _ | refine yxd ?_ | refine yxn ?_ _ | refine yxs ?_ (by simp <;> omega) _ | refine yxt ?_ (by assumption))))) ?_; rintro e9 w1 ⟨rfl, hb⟩; have hq := yxx HX.out (by repeat first | exact yx0 _ | assumption | refine yxa ?_ _ | refine yxd ?_ | refine yxn ?_ _ | refine yxs ?_ (by simp <;> omega) _ | refine yxt ?_ (by assumption)) hb; have HB9 := Lib.hid (HB.out.ext hq); have HS9 := Lib.hid (HS.out.ext hq); have HX9 := Lib.hid (HX.out.trans hq); clear k0 k1 k2 kl m0 m1 ml HB HS HX; have HB := HB9; have HS := HS9; have HX := HX9; clear HB9 HS9 HX9; obtain ⟨k0, k1, k2, kl⟩ := HB.out.c3; obtain ⟨m0, m1, _, _, ml⟩ := HS.out.c2; (try (have q9 := Lib.hid (HCF.out.ext hq); clear HCF; have HCF := q9; clear q9)); (try (have q9 := Lib.hid (HCS.out.ext hq); clear HCS; have HCS := q9; clear q9)); (try (have q9 := Lib.hid (HCI.out.ext hq); clear HCI; have HCI := q9; clear q9)); (try (have q9 := Lib.hid (HPT.out.ext hq); clear HPT; have HPT := q9; clear q9)); (try (have q9 := Lib.hid (HLI.out.ext hq); clear HLI; have HLI := q9; clear q9)); (try (have q9 := Lib.hid (HXI.out.ext hq); clear HXI; have HXI := q9; clear q9)); clear hq; clear hb))
    go_ret
    exact Ret.mk' (by first | rfl | simp) (HX.out.trans (by repeat first | exact yx0 _ | assumption | refine yxa ?_ _ | refine yxd ?_ | refine yxn ?_ _ | refine yxs ?_ (by simp <;> omega) _ | refine yxt ?_ (by assumption)))
  case pos =>
  have cSF := fun W h => sFew_yes s W h hsf
  by_cases hl : 10 < set.length
  case pos =>
    have i1 : (10 : Int) < (set.length : Int) := by omega
    obtain ⟨name, body, ss⟩ := f
    obtain ⟨B, d, cs, D, e, ns⟩ := s
    simp only [ST.val, FT.val] at *
    have CFW := Lib.hid cFW; have CSF := Lib.hid cSF; clear cFW cSF hfw hsf hl
    go_enter Tryz.func5, Tryz.ntmps5
    obtain ⟨wq, hwq⟩ : ∃ wq, (w.alloc (.cells #[.string name, .int .i64 body, .slice A ss.length c] 24)).alloc (.cells #[.slice B cs.length d, .slice D ns.length e] 45) = wq := ⟨_, rfl⟩
    have HB : Hid (Blk wq w.heap.size 24 #[.string name, .int .i64 body, .slice A ss.length c]) := Lib.hid (by rw [← hwq]; exact (Blk.new w _ _).alloc _)
    have HS : Hid (Blk wq (w.heap.size + 1) 45 #[.slice B cs.length d, .slice D ns.length e]) := Lib.hid (by rw [← hwq]; exact Blk.new1 w _ _ _)
    have HX : Hid (Ext w wq) := Lib.hid (by rw [← hwq]; exact (by repeat first | exact yx0 _ | assumption | refine yxa ?_ _ | refine yxd ?_ | refine yxn ?_ _ | refine yxs ?_ (by simp <;> omega) _ | refine yxt ?_ (by assumption)))
    go_upto_region 1 with fail
    (try rw [hwq])
    clear hwq
    obtain ⟨k0, k1, k2, kl⟩ := HB.out.c3; obtain ⟨m0, m1, _, _, ml⟩ := HS.out.c2
    go_wp2_with (first | (go_at_call 8; refine Calls.mono (CA.out _ (HT.out.ext (HX.out.trans (by repeat first | exact yx0 _ | assumption | refine yxa ?_ _ | refine yxd ?_ | refine yxn ?_ _ | refine yxs ?_ (by simp <;> omega) _ | refine yxt ?_ (by assumption))))) ?_; rintro e9 w1 ⟨rfl, hb⟩; have hq := yxx HX.out (by repeat first | exact yx0 _ | assumption | refine yxa ?_ _ | refine yxd ?_ | refine yxn ?_ _ | refine yxs ?_ (by simp <;> omega) _ | refine yxt ?_ (by assumption)) hb; have HB9 := Lib.hid (HB.out.ext hq); have HS9 := Lib.hid (HS.out.ext hq); have HX9 := Lib.hid (HX.out.trans hq); clear k0 k1 k2 kl m0 m1 ml HB HS HX; have HB := HB9; have HS := HS9; have HX := HX9; clear HB9 HS9 HX9; obtain ⟨k0, k1, k2, kl⟩ := HB.out.c3; obtain ⟨m0, m1, _, _, ml⟩ := HS.out.c2; (try (have q9 := Lib.hid (HCF.out.ext hq); clear HCF; have HCF := q9; clear q9)); (try (have q9 := Lib.hid (HCS.out.ext hq); clear HCS; have HCS := q9; clear q9)); (try (have q9 := Lib.hid (HCI.out.ext hq); clear HCI; have HCI := q9; clear q9)); (try (have q9 := Lib.hid (HPT.out.ext hq); clear HPT; have HPT := q9; clear q9)); (try (have q9 := Lib.hid (HLI.out.ext hq); clear HLI; have HLI := q9; clear q9)); (try (have q9 := Lib.hid (HXI.out.ext hq); clear HXI; have HXI := q9; clear q9)); clear hq; clear hb) | (go_at_call 17; refine Calls.mono (CFW.out _ (HF.out.ext (HX.out.trans (by repeat first | exact yx0 _ | assumption | refine yxa ?_ _ | refine yxd ?_ | refine yxn ?_ _ | refine yxs ?_ (by simp <;> omega) _ | refine yxt ?_ (by assumption))))) ?_; rintro e9 w1 ⟨rfl, hb⟩; have hq := yxx HX.out (by repeat first | exact yx0 _ | assumption | refine yxa ?_ _ | refine yxd ?_ | refine yxn ?_ _ | refine yxs ?_ (by simp <;> omega) _ | refine yxt ?_ (by assumption)) hb; have HB9 := Lib.hid (HB.out.ext hq); have HS9 := Lib.hid (HS.out.ext hq); have HX9 := Lib.hid (HX.out.trans hq); clear k0 k1 k2 kl m0 m1 ml HB HS HX; have HB := HB9; have HS := HS9; have HX := HX9; clear HB9 HS9 HX9; obtain ⟨k0, k1, k2, kl⟩ := HB.out.c3; obtain ⟨m0, m1, _, _, ml⟩ := HS.out.c2; (try (have q9 := Lib.hid (HCF.out.ext hq); clear HCF; have HCF := q9; clear q9)); (try (have q9 := Lib.hid (HCS.out.ext hq); clear HCS; have HCS := q9; clear q9)); (try (have q9 := Lib.hid (HCI.out.ext hq); clear HCI; have HCI := q9; clear q9)); (try (have q9 := Lib.hid (HPT.out.ext hq); clear HPT; have HPT := q9; clear q9)); (try (have q9 := Lib.hid (HLI.out.ext hq); clear HLI; have HLI := q9; clear q9)); (try (have q9 := Lib.hid (HXI.out.ext hq); clear HXI; have HXI := q9; clear q9)); clear hq; clear hb) | (go_at_call 18; refine Calls.mono (CSF.out _ (HSR.out.ext (HX.out.trans (by repeat first | exact yx0 _ | assumption | refine yxa ?_ _ | refine yxd ?_ | refine yxn ?_ _ | refine yxs ?_ (by simp <;> omega) _ | refine yxt ?_ (by assumption))))) ?_; rintro e9 w1 ⟨rfl, hb⟩; have hq := yxx HX.out (by repeat first | exact yx0 _ | assumption | refine yxa ?_ _ | refine yxd ?_ | refine yxn ?_ _ | refine yxs ?_ (by simp <;> omega) _ | refine yxt ?_ (by assumption)) hb; have HB9 := Lib.hid (HB.out.ext hq); have HS9 := Lib.hid (HS.out.ext hq); have HX9 := Lib.hid (HX.out.trans hq); clear k0 k1 k2 kl m0 m1 ml HB HS HX; have HB := HB9; have HS := HS9; have HX := HX9; clear HB9 HS9 HX9; obtain ⟨k0, k1, k2, kl⟩ := HB.out.c3; obtain ⟨m0, m1, _, _, ml⟩ := HS.out.c2; (try (have q9 := Lib.hid (HCF.out.ext hq); clear HCF; have HCF := q9; clear q9)); (try (have q9 := Lib.hid (HCS.out.ext hq); clear HCS; have HCS := q9; clear q9)); (try (have q9 := Lib.hid (HCI.out.ext hq); clear HCI; have HCI := q9; clear q9)); (try (have q9 := Lib.hid (HPT.out.ext hq); clear HPT; have HPT := q9; clear q9)); (try (have q9 := Lib.hid (HLI.out.ext hq); clear HLI; have HLI := q9; clear q9)); (try (have q9 := Lib.hid (HXI.out.ext hq); clear HXI; have HXI := q9; clear q9)); clear hq; clear hb))
    go_ret
    exact Ret.mk' (by first | rfl | simp) (HX.out.trans (by repeat first | exact yx0 _ | assumption | refine yxa ?_ _ | refine yxd ?_ | refine yxn ?_ _ | refine yxs ?_ (by simp <;> omega) _ | refine yxt ?_ (by assumption)))
  case neg =>
  have i1 : ¬ (10 : Int) < (set.length : Int) := by omega
  have hf123 := few_123 hfw
  have cPF := fun W h => copyFountA_any f.name f.body f.sorts A c W h hf123
  have cPS := fun W h => stand_any s W h hsf
  have CPI := Lib.hid (fun W h => copyInts_any X cx set W h (by omega))
  have cSN : ∀ set FA fc (t : ST) X cx W, t.cs = s.cs → t.zs = s.zs → FR W FA fc f → SR W t → RI W X set.length set → Calls Tryz.prog 27 #[f.val FA fc, t.val, .slice X set.length cx] W (Ret (.tuple #[.int .i64 (psN f s set), .int .i64 (psE f s set)]) W) := fun set FA fc t X cx W h1 h2 h3 h4 h5 => by
    have := pStandsN_any f FA fc t X cx set W h3 h4 h5
    rwa [psN_same h1 h2, psE_same h1 h2] at this
  have cMS : ∀ FA fc (t : ST) W, t.cs = s.cs → t.zs = s.zs → FR W FA fc f → SR W t → Calls Tryz.prog 19 #[f.val FA fc, t.val] W (RetZE (mostV f s) (standE f s.cs s.zs) W) := fun FA fc t W h1 h2 h3 h4 => by
    have := pMost_any f FA fc t W h3 h4
    rwa [mostV_same h1 h2, h1, h2] at this
  have cXC : ∀ FA fc (t : ST) W, t.cs = s.cs → t.zs = s.zs → FR W FA fc f → SR W t → Calls Tryz.prog 21 #[f.val FA fc, t.val] W (RetZNE (exvL f s) (exvN f s) (exvE f s) W) := fun FA fc t W h1 h2 h3 h4 => by
    have := pExcluding_any f FA fc t W h3 h4
    obtain ⟨e1, e2, e3⟩ := exvL_same (f := f) h1 h2
    rwa [e1, e2, e3] at this
  have cSN1 := cSN set
  by_cases h1 : psE f s set = 0
  case neg =>
    have e0 : (psE f s set != 0) = true := by simpa using h1
    clear h1 cSN cMS cXC
    generalize psE f s set = z at *
    generalize psN f s set = n at *
    obtain ⟨name, body, ss⟩ := f
    obtain ⟨B, d, cs, D, e, ns⟩ := s
    simp only [FT.val] at *
    have hsv : ST.val ⟨B, d, cs, D, e, ns⟩ = .agg #[.slice B cs.length d, .slice D ns.length e] := rfl
    rw [hsv] at cSF cPS
    rw [hsv]
    have CFW := Lib.hid cFW; have CSF := Lib.hid cSF; have CPF := Lib.hid cPF; have CPS := Lib.hid cPS; have CSN := Lib.hid cSN1
    clear cFW cSF cPF cPS cSN1 hfw hsf hf123 hsv hl hc
    go_enter Tryz.func5, Tryz.ntmps5
    obtain ⟨wq, hwq⟩ : ∃ wq, (w.alloc (.cells #[.string name, .int .i64 body, .slice A ss.length c] 24)).alloc (.cells #[.slice B cs.length d, .slice D ns.length e] 45) = wq := ⟨_, rfl⟩
    have HB : Hid (Blk wq w.heap.size 24 #[.string name, .int .i64 body, .slice A ss.length c]) := Lib.hid (by rw [← hwq]; exact (Blk.new w _ _).alloc _)
    have HS : Hid (Blk wq (w.heap.size + 1) 45 #[.slice B cs.length d, .slice D ns.length e]) := Lib.hid (by rw [← hwq]; exact Blk.new1 w _ _ _)
    have HX : Hid (Ext w wq) := Lib.hid (by rw [← hwq]; exact (by repeat first | exact yx0 _ | assumption | refine yxa ?_ _ | refine yxd ?_ | refine yxn ?_ _ | refine yxs ?_ (by simp <;> omega) _ | refine yxt ?_ (by assumption)))
    go_upto_region 1 with fail
    (try rw [hwq])
    clear hwq
    obtain ⟨k0, k1, k2, kl⟩ := HB.out.c3; obtain ⟨m0, m1, _, _, ml⟩ := HS.out.c2
    go_upto_region 5 with (first | (go_at_call 8; refine Calls.mono (CA.out _ (HT.out.ext (HX.out.trans (by repeat first | exact yx0 _ | assumption | refine yxa ?_ _ | refine yxd ?_ | refine yxn ?_ _ | refine yxs ?_ (by simp <;> omega) _ | refine yxt ?_ (by assumption))))) ?_; rintro e9 w1 ⟨rfl, hb⟩; have hq := yxx HX.out (by repeat first | exact yx0 _ | assumption | refine yxa ?_ _ | refine yxd ?_ | refine yxn ?_ _ | refine yxs ?_ (by simp <;> omega) _ | refine yxt ?_ (by assumption)) hb; have HB9 := Lib.hid (HB.out.ext hq); have HS9 := Lib.hid (HS.out.ext hq); have HX9 := Lib.hid (HX.out.trans hq); clear k0 k1 k2 kl m0 m1 ml HB HS HX; have HB := HB9; have HS := HS9; have HX := HX9; clear HB9 HS9 HX9; obtain ⟨k0, k1, k2, kl⟩ := HB.out.c3; obtain ⟨m0, m1, _, _, ml⟩ := HS.out.c2; (try (have q9 := Lib.hid (HCF.out.ext hq); clear HCF; have HCF := q9; clear q9)); (try (have q9 := Lib.hid (HCS.out.ext hq); clear HCS; have HCS := q9; clear q9)); (try (have q9 := Lib.hid (HCI.out.ext hq); clear HCI; have HCI := q9; clear q9)); (try (have q9 := Lib.hid (HPT.out.ext hq); clear HPT; have HPT := q9; clear q9)); (try (have q9 := Lib.hid (HLI.out.ext hq); clear HLI; have HLI := q9; clear q9)); (try (have q9 := Lib.hid (HXI.out.ext hq); clear HXI; have HXI := q9; clear q9)); clear hq; clear hb) | (go_at_call 17; refine Calls.mono (CFW.out _ (HF.out.ext (HX.out.trans (by repeat first | exact yx0 _ | assumption | refine yxa ?_ _ | refine yxd ?_ | refine yxn ?_ _ | refine yxs ?_ (by simp <;> omega) _ | refine yxt ?_ (by assumption))))) ?_; rintro e9 w1 ⟨rfl, hb⟩; have hq := yxx HX.out (by repeat first | exact yx0 _ | assumption | refine yxa ?_ _ | refine yxd ?_ | refine yxn ?_ _ | refine yxs ?_ (by simp <;> omega) _ | refine yxt ?_ (by assumption)) hb; have HB9 := Lib.hid (HB.out.ext hq); have HS9 := Lib.hid (HS.out.ext hq); have HX9 := Lib.hid (HX.out.trans hq); clear k0 k1 k2 kl m0 m1 ml HB HS HX; have HB := HB9; have HS := HS9; have HX := HX9; clear HB9 HS9 HX9; obtain ⟨k0, k1, k2, kl⟩ := HB.out.c3; obtain ⟨m0, m1, _, _, ml⟩ := HS.out.c2; (try (have q9 := Lib.hid (HCF.out.ext hq); clear HCF; have HCF := q9; clear q9)); (try (have q9 := Lib.hid (HCS.out.ext hq); clear HCS; have HCS := q9; clear q9)); (try (have q9 := Lib.hid (HCI.out.ext hq); clear HCI; have HCI := q9; clear q9)); (try (have q9 := Lib.hid (HPT.out.ext hq); clear HPT; have HPT := q9; clear q9)); (try (have q9 := Lib.hid (HLI.out.ext hq); clear HLI; have HLI := q9; clear q9)); (try (have q9 := Lib.hid (HXI.out.ext hq); clear HXI; have HXI := q9; clear q9)); clear hq; clear hb) | (go_at_call 18; refine Calls.mono (CSF.out _ (HSR.out.ext (HX.out.trans (by repeat first | exact yx0 _ | assumption | refine yxa ?_ _ | refine yxd ?_ | refine yxn ?_ _ | refine yxs ?_ (by simp <;> omega) _ | refine yxt ?_ (by assumption))))) ?_; rintro e9 w1 ⟨rfl, hb⟩; have hq := yxx HX.out (by repeat first | exact yx0 _ | assumption | refine yxa ?_ _ | refine yxd ?_ | refine yxn ?_ _ | refine yxs ?_ (by simp <;> omega) _ | refine yxt ?_ (by assumption)) hb; have HB9 := Lib.hid (HB.out.ext hq); have HS9 := Lib.hid (HS.out.ext hq); have HX9 := Lib.hid (HX.out.trans hq); clear k0 k1 k2 kl m0 m1 ml HB HS HX; have HB := HB9; have HS := HS9; have HX := HX9; clear HB9 HS9 HX9; obtain ⟨k0, k1, k2, kl⟩ := HB.out.c3; obtain ⟨m0, m1, _, _, ml⟩ := HS.out.c2; (try (have q9 := Lib.hid (HCF.out.ext hq); clear HCF; have HCF := q9; clear q9)); (try (have q9 := Lib.hid (HCS.out.ext hq); clear HCS; have HCS := q9; clear q9)); (try (have q9 := Lib.hid (HCI.out.ext hq); clear HCI; have HCI := q9; clear q9)); (try (have q9 := Lib.hid (HPT.out.ext hq); clear HPT; have HPT := q9; clear q9)); (try (have q9 := Lib.hid (HLI.out.ext hq); clear HLI; have HLI := q9; clear q9)); (try (have q9 := Lib.hid (HXI.out.ext hq); clear HXI; have HXI := q9; clear q9)); clear hq; clear hb))
    go_region_held3 (fun W => (W.cell? ⟨w.heap.size, 0, none⟩ = some (.string name) ∧ W.cell? ⟨w.heap.size, 1, none⟩ = some (.int .i64 body) ∧ W.cell? ⟨w.heap.size, 2, none⟩ = some (.slice A ss.length c)) ∧ (W.cell? ⟨w.heap.size + 1, 0, none⟩ = some (.slice B cs.length d) ∧ W.cell? ⟨w.heap.size + 1, 1, none⟩ = some (.slice D ns.length e)) ∧ w.heap.size + 1 < W.heap.size) (first | exact ⟨⟨k0, k1, k2⟩, ⟨m0, m1⟩, ml⟩ | go_keep) (first | (go_at_call 12; refine Calls.mono (CPF.out _ (HF.out.ext (HX.out.trans (by repeat first | exact yx0 _ | assumption | refine yxa ?_ _ | refine yxd ?_ | refine yxn ?_ _ | refine yxs ?_ (by simp <;> omega) _ | refine yxt ?_ (by assumption))))) ?_; rintro e9 w1 ⟨FA, fc, rfl, hfa, hb⟩; have hq := yxx HX.out (by repeat first | exact yx0 _ | assumption | refine yxa ?_ _ | refine yxd ?_ | refine yxn ?_ _ | refine yxs ?_ (by simp <;> omega) _ | refine yxt ?_ (by assumption)) hb; have HB9 := Lib.hid (HB.out.ext hq); have HS9 := Lib.hid (HS.out.ext hq); have HX9 := Lib.hid (HX.out.trans hq); clear k0 k1 k2 kl m0 m1 ml HB HS HX; have HB := HB9; have HS := HS9; have HX := HX9; clear HB9 HS9 HX9; obtain ⟨k0, k1, k2, kl⟩ := HB.out.c3; obtain ⟨m0, m1, _, _, ml⟩ := HS.out.c2; (try (have q9 := Lib.hid (HCF.out.ext hq); clear HCF; have HCF := q9; clear q9)); (try (have q9 := Lib.hid (HCS.out.ext hq); clear HCS; have HCS := q9; clear q9)); (try (have q9 := Lib.hid (HCI.out.ext hq); clear HCI; have HCI := q9; clear q9)); (try (have q9 := Lib.hid (HPT.out.ext hq); clear HPT; have HPT := q9; clear q9)); (try (have q9 := Lib.hid (HLI.out.ext hq); clear HLI; have HLI := q9; clear q9)); (try (have q9 := Lib.hid (HXI.out.ext hq); clear HXI; have HXI := q9; clear q9)); clear hq; have HCF := Lib.hid hfa; clear hfa hb) | (go_at_call 20; refine Calls.mono (CPS.out _ (HSR.out.ext (HX.out.trans (by repeat first | exact yx0 _ | assumption | refine yxa ?_ _ | refine yxd ?_ | refine yxn ?_ _ | refine yxs ?_ (by simp <;> omega) _ | refine yxt ?_ (by assumption))))) ?_; rintro e9 w1 ⟨st, rfl, hst, hs1, hs2, hb⟩; have hq := yxx HX.out (by repeat first | exact yx0 _ | assumption | refine yxa ?_ _ | refine yxd ?_ | refine yxn ?_ _ | refine yxs ?_ (by simp <;> omega) _ | refine yxt ?_ (by assumption)) hb; have HB9 := Lib.hid (HB.out.ext hq); have HS9 := Lib.hid (HS.out.ext hq); have HX9 := Lib.hid (HX.out.trans hq); clear k0 k1 k2 kl m0 m1 ml HB HS HX; have HB := HB9; have HS := HS9; have HX := HX9; clear HB9 HS9 HX9; obtain ⟨k0, k1, k2, kl⟩ := HB.out.c3; obtain ⟨m0, m1, _, _, ml⟩ := HS.out.c2; (try (have q9 := Lib.hid (HCF.out.ext hq); clear HCF; have HCF := q9; clear q9)); (try (have q9 := Lib.hid (HCS.out.ext hq); clear HCS; have HCS := q9; clear q9)); (try (have q9 := Lib.hid (HCI.out.ext hq); clear HCI; have HCI := q9; clear q9)); (try (have q9 := Lib.hid (HPT.out.ext hq); clear HPT; have HPT := q9; clear q9)); (try (have q9 := Lib.hid (HLI.out.ext hq); clear HLI; have HLI := q9; clear q9)); (try (have q9 := Lib.hid (HXI.out.ext hq); clear HXI; have HXI := q9; clear q9)); clear hq; have HCS := Lib.hid hst; have HS1 := Lib.hid hs1; have HS2 := Lib.hid hs2; clear hst hs1 hs2 hb) | (go_at_call 14; refine Calls.mono (CPI.out _ (HRX.out.ext (HX.out.trans (by repeat first | exact yx0 _ | assumption | refine yxa ?_ _ | refine yxd ?_ | refine yxn ?_ _ | refine yxs ?_ (by simp <;> omega) _ | refine yxt ?_ (by assumption))))) ?_; rintro e9 w1 ⟨IA, ic, rfl, hsl, hb⟩; have hq := yxx HX.out (by repeat first | exact yx0 _ | assumption | refine yxa ?_ _ | refine yxd ?_ | refine yxn ?_ _ | refine yxs ?_ (by simp <;> omega) _ | refine yxt ?_ (by assumption)) hb; have HB9 := Lib.hid (HB.out.ext hq); have HS9 := Lib.hid (HS.out.ext hq); have HX9 := Lib.hid (HX.out.trans hq); clear k0 k1 k2 kl m0 m1 ml HB HS HX; have HB := HB9; have HS := HS9; have HX := HX9; clear HB9 HS9 HX9; obtain ⟨k0, k1, k2, kl⟩ := HB.out.c3; obtain ⟨m0, m1, _, _, ml⟩ := HS.out.c2; (try (have q9 := Lib.hid (HCF.out.ext hq); clear HCF; have HCF := q9; clear q9)); (try (have q9 := Lib.hid (HCS.out.ext hq); clear HCS; have HCS := q9; clear q9)); (try (have q9 := Lib.hid (HCI.out.ext hq); clear HCI; have HCI := q9; clear q9)); (try (have q9 := Lib.hid (HPT.out.ext hq); clear HPT; have HPT := q9; clear q9)); (try (have q9 := Lib.hid (HLI.out.ext hq); clear HLI; have HLI := q9; clear q9)); (try (have q9 := Lib.hid (HXI.out.ext hq); clear HXI; have HXI := q9; clear q9)); clear hq; have HCI := Lib.hid hsl.ri; have HCC := Lib.hid hsl.cap; clear hsl hb) | (go_at_call 27; refine Calls.mono (CSN.out _ _ _ _ _ _ HS1.out HS2.out (HCF.out.ext (by repeat first | exact yx0 _ | assumption | refine yxa ?_ _ | refine yxd ?_ | refine yxn ?_ _ | refine yxs ?_ (by simp <;> omega) _ | refine yxt ?_ (by assumption))) (HCS.out.ext (by repeat first | exact yx0 _ | assumption | refine yxa ?_ _ | refine yxd ?_ | refine yxn ?_ _ | refine yxs ?_ (by simp <;> omega) _ | refine yxt ?_ (by assumption))) (HCI.out.ext (by repeat first | exact yx0 _ | assumption | refine yxa ?_ _ | refine yxd ?_ | refine yxn ?_ _ | refine yxs ?_ (by simp <;> omega) _ | refine yxt ?_ (by assumption)))) ?_; rintro e9 w1 ⟨rfl, hb⟩; clear HS1 HS2 HCC; have hq := yxx HX.out (by repeat first | exact yx0 _ | assumption | refine yxa ?_ _ | refine yxd ?_ | refine yxn ?_ _ | refine yxs ?_ (by simp <;> omega) _ | refine yxt ?_ (by assumption)) hb; have HB9 := Lib.hid (HB.out.ext hq); have HS9 := Lib.hid (HS.out.ext hq); have HX9 := Lib.hid (HX.out.trans hq); clear k0 k1 k2 kl m0 m1 ml HB HS HX; have HB := HB9; have HS := HS9; have HX := HX9; clear HB9 HS9 HX9; obtain ⟨k0, k1, k2, kl⟩ := HB.out.c3; obtain ⟨m0, m1, _, _, ml⟩ := HS.out.c2; (try (have q9 := Lib.hid (HCF.out.ext hq); clear HCF; have HCF := q9; clear q9)); (try (have q9 := Lib.hid (HCS.out.ext hq); clear HCS; have HCS := q9; clear q9)); (try (have q9 := Lib.hid (HCI.out.ext hq); clear HCI; have HCI := q9; clear q9)); (try (have q9 := Lib.hid (HPT.out.ext hq); clear HPT; have HPT := q9; clear q9)); (try (have q9 := Lib.hid (HLI.out.ext hq); clear HLI; have HLI := q9; clear q9)); (try (have q9 := Lib.hid (HXI.out.ext hq); clear HXI; have HXI := q9; clear q9)); clear hq; clear HCF HCS HCI hb))
    go_wp2
    go_ret
    exact Ret.mk' (by first | rfl | simp) (HX.out.trans (by repeat first | exact yx0 _ | assumption | refine yxa ?_ _ | refine yxd ?_ | refine yxn ?_ _ | refine yxs ?_ (by simp <;> omega) _ | refine yxt ?_ (by assumption)))
  case pos =>
  have hst : standE f s.cs s.zs = 0 := by
    unfold psE at h1
    split at h1
    · rename_i h; exact absurd h1 h
    · rename_i h; simpa using h
  have hse : setE s.ns.length set = 0 := by
    unfold psE at h1
    rw [if_neg (by simpa using hst)] at h1
    split at h1
    · rename_i h; exact absurd h1 h
    · rename_i h; simpa using h
  have hsh : shortE s.cs s.zs set = 0 := by
    unfold psE at h1
    rw [if_neg (by simpa using hst), if_neg (by simpa using hse)] at h1
    split at h1
    · cases h1
    · rename_i h; simpa using h
  have hp := setE_zero hse
  have hR : Right s := Right.of hst
  have hcs : ∀ k, k < s.cs.length → 0 ≤ s.cs.getD k 0 := fun k hk => (hR.case_ k hk).1
  have hnd : ∀ n k, 0 ≤ needAt s.zs n k := fun n k => (hR.need n k).1
  obtain ⟨hfw1, hfw2⟩ := fewer (cs := s.cs) (ns := s.zs) hcs hnd hp hsh
  have hstd := standing (cs := s.cs) (ns := s.zs) hcs hnd s.ns.length
  have hmv : mostV f s = most s.ns.length (stB s.cs s.zs) s.ns.length := by unfold mostV; rw [if_neg (by simpa using hst)]
  have cSQ : ∀ k, k < set.length → ∀ FA fc (t : ST) X cx W, t.cs = s.cs → t.zs = s.zs → FR W FA fc f → SR W t → RI W X (set.take k ++ set.drop (k + 1)).length (set.take k ++ set.drop (k + 1)) → Calls Tryz.prog 27 #[f.val FA fc, t.val, .slice X (set.take k ++ set.drop (k + 1)).length cx] W (Ret (.tuple #[.int .i64 ((set.take k ++ set.drop (k + 1)).length : Int), .int .i64 0]) W) := fun k hk FA fc t X cx W h1 h2 h3 h4 h5 => by
    have hsub := erase_sub set k
    have q1 := setE_rise (hp.sub hsub)
    have q2 := stands_sub (cs := s.cs) (ns := s.zs) hsub hnd hsh
    have q3 : psN f s (set.take k ++ set.drop (k + 1)) = ((set.take k ++ set.drop (k + 1)).length : Int) := by unfold psN; rw [if_neg (by simpa using hst), if_neg (by simpa using q1), if_neg (by simpa using q2)]
    have q4 : psE f s (set.take k ++ set.drop (k + 1)) = 0 := by unfold psE; rw [if_neg (by simpa using hst), if_neg (by simpa using q1), if_neg (by simpa using q2)]
    have := cSN (set.take k ++ set.drop (k + 1)) FA fc t X cx W h1 h2 h3 h4 h5
    rwa [q3, q4] at this
  rw [← hmv] at hfw1
  rw [hst] at cMS
  rw [h1] at cSN1
  have i7 : ¬ ((mostV f s).length : Int) < (set.length : Int) := by omega
  clear cSN h1
  rcases hstd with ⟨e1, _, _⟩ | ⟨l, e1, _, e3, e4, e5, _⟩
  · have v1 : exvL f s = [] := by unfold exvL lstV; rw [if_neg (by simpa using hst), e1]; rfl
    have v3 : exvE f s = 12 := by unfold exvE lstV; rw [if_neg (by simpa using hst), e1]
    rw [v1, v3] at cXC
    clear v1 v3 e1 hst hse hsh hp hR hcs hnd hfw1 hfw2 hmv
    generalize exvN f s = vN at *
    generalize mostV f s = mo at *
    generalize psN f s set = pn at *
    obtain ⟨name, body, ss⟩ := f
    obtain ⟨B, d, cs, D, e, ns⟩ := s
    simp only [FT.val] at *
    have hsv : ST.val ⟨B, d, cs, D, e, ns⟩ = .agg #[.slice B cs.length d, .slice D ns.length e] := rfl
    rw [hsv] at cSF cPS
    rw [hsv]
    have CFW := Lib.hid cFW; have CSF := Lib.hid cSF; have CPF := Lib.hid cPF; have CPS := Lib.hid cPS; have CSN := Lib.hid cSN1; have CMS := Lib.hid cMS; have CXC := Lib.hid cXC; have CSQ := Lib.hid cSQ
    clear cFW cSF cPF cPS cSN1 cMS cXC cSQ hfw hsf hf123 hsv hl
    go_enter Tryz.func5, Tryz.ntmps5
    obtain ⟨wq, hwq⟩ : ∃ wq, (w.alloc (.cells #[.string name, .int .i64 body, .slice A ss.length c] 24)).alloc (.cells #[.slice B cs.length d, .slice D ns.length e] 45) = wq := ⟨_, rfl⟩
    have HB : Hid (Blk wq w.heap.size 24 #[.string name, .int .i64 body, .slice A ss.length c]) := Lib.hid (by rw [← hwq]; exact (Blk.new w _ _).alloc _)
    have HS : Hid (Blk wq (w.heap.size + 1) 45 #[.slice B cs.length d, .slice D ns.length e]) := Lib.hid (by rw [← hwq]; exact Blk.new1 w _ _ _)
    have HX : Hid (Ext w wq) := Lib.hid (by rw [← hwq]; exact (by repeat first | exact yx0 _ | assumption | refine yxa ?_ _ | refine yxd ?_ | refine yxn ?_ _ | refine yxs ?_ (by simp <;> omega) _ | refine yxt ?_ (by assumption)))
    go_upto_region 1 with fail
    (try rw [hwq])
    clear hwq
    obtain ⟨k0, k1, k2, kl⟩ := HB.out.c3; obtain ⟨m0, m1, _, _, ml⟩ := HS.out.c2
    go_upto_region 5 with (first | (go_at_call 8; refine Calls.mono (CA.out _ (HT.out.ext (HX.out.trans (by repeat first | exact yx0 _ | assumption | refine yxa ?_ _ | refine yxd ?_ | refine yxn ?_ _ | refine yxs ?_ (by simp <;> omega) _ | refine yxt ?_ (by assumption))))) ?_; rintro e9 w1 ⟨rfl, hb⟩; have hq := yxx HX.out (by repeat first | exact yx0 _ | assumption | refine yxa ?_ _ | refine yxd ?_ | refine yxn ?_ _ | refine yxs ?_ (by simp <;> omega) _ | refine yxt ?_ (by assumption)) hb; have HB9 := Lib.hid (HB.out.ext hq); have HS9 := Lib.hid (HS.out.ext hq); have HX9 := Lib.hid (HX.out.trans hq); clear k0 k1 k2 kl m0 m1 ml HB HS HX; have HB := HB9; have HS := HS9; have HX := HX9; clear HB9 HS9 HX9; obtain ⟨k0, k1, k2, kl⟩ := HB.out.c3; obtain ⟨m0, m1, _, _, ml⟩ := HS.out.c2; (try (have q9 := Lib.hid (HCF.out.ext hq); clear HCF; have HCF := q9; clear q9)); (try (have q9 := Lib.hid (HCS.out.ext hq); clear HCS; have HCS := q9; clear q9)); (try (have q9 := Lib.hid (HCI.out.ext hq); clear HCI; have HCI := q9; clear q9)); (try (have q9 := Lib.hid (HPT.out.ext hq); clear HPT; have HPT := q9; clear q9)); (try (have q9 := Lib.hid (HLI.out.ext hq); clear HLI; have HLI := q9; clear q9)); (try (have q9 := Lib.hid (HXI.out.ext hq); clear HXI; have HXI := q9; clear q9)); clear hq; clear hb) | (go_at_call 17; refine Calls.mono (CFW.out _ (HF.out.ext (HX.out.trans (by repeat first | exact yx0 _ | assumption | refine yxa ?_ _ | refine yxd ?_ | refine yxn ?_ _ | refine yxs ?_ (by simp <;> omega) _ | refine yxt ?_ (by assumption))))) ?_; rintro e9 w1 ⟨rfl, hb⟩; have hq := yxx HX.out (by repeat first | exact yx0 _ | assumption | refine yxa ?_ _ | refine yxd ?_ | refine yxn ?_ _ | refine yxs ?_ (by simp <;> omega) _ | refine yxt ?_ (by assumption)) hb; have HB9 := Lib.hid (HB.out.ext hq); have HS9 := Lib.hid (HS.out.ext hq); have HX9 := Lib.hid (HX.out.trans hq); clear k0 k1 k2 kl m0 m1 ml HB HS HX; have HB := HB9; have HS := HS9; have HX := HX9; clear HB9 HS9 HX9; obtain ⟨k0, k1, k2, kl⟩ := HB.out.c3; obtain ⟨m0, m1, _, _, ml⟩ := HS.out.c2; (try (have q9 := Lib.hid (HCF.out.ext hq); clear HCF; have HCF := q9; clear q9)); (try (have q9 := Lib.hid (HCS.out.ext hq); clear HCS; have HCS := q9; clear q9)); (try (have q9 := Lib.hid (HCI.out.ext hq); clear HCI; have HCI := q9; clear q9)); (try (have q9 := Lib.hid (HPT.out.ext hq); clear HPT; have HPT := q9; clear q9)); (try (have q9 := Lib.hid (HLI.out.ext hq); clear HLI; have HLI := q9; clear q9)); (try (have q9 := Lib.hid (HXI.out.ext hq); clear HXI; have HXI := q9; clear q9)); clear hq; clear hb) | (go_at_call 18; refine Calls.mono (CSF.out _ (HSR.out.ext (HX.out.trans (by repeat first | exact yx0 _ | assumption | refine yxa ?_ _ | refine yxd ?_ | refine yxn ?_ _ | refine yxs ?_ (by simp <;> omega) _ | refine yxt ?_ (by assumption))))) ?_; rintro e9 w1 ⟨rfl, hb⟩; have hq := yxx HX.out (by repeat first | exact yx0 _ | assumption | refine yxa ?_ _ | refine yxd ?_ | refine yxn ?_ _ | refine yxs ?_ (by simp <;> omega) _ | refine yxt ?_ (by assumption)) hb; have HB9 := Lib.hid (HB.out.ext hq); have HS9 := Lib.hid (HS.out.ext hq); have HX9 := Lib.hid (HX.out.trans hq); clear k0 k1 k2 kl m0 m1 ml HB HS HX; have HB := HB9; have HS := HS9; have HX := HX9; clear HB9 HS9 HX9; obtain ⟨k0, k1, k2, kl⟩ := HB.out.c3; obtain ⟨m0, m1, _, _, ml⟩ := HS.out.c2; (try (have q9 := Lib.hid (HCF.out.ext hq); clear HCF; have HCF := q9; clear q9)); (try (have q9 := Lib.hid (HCS.out.ext hq); clear HCS; have HCS := q9; clear q9)); (try (have q9 := Lib.hid (HCI.out.ext hq); clear HCI; have HCI := q9; clear q9)); (try (have q9 := Lib.hid (HPT.out.ext hq); clear HPT; have HPT := q9; clear q9)); (try (have q9 := Lib.hid (HLI.out.ext hq); clear HLI; have HLI := q9; clear q9)); (try (have q9 := Lib.hid (HXI.out.ext hq); clear HXI; have HXI := q9; clear q9)); clear hq; clear hb))
    go_region_held3 (fun W => (W.cell? ⟨w.heap.size, 0, none⟩ = some (.string name) ∧ W.cell? ⟨w.heap.size, 1, none⟩ = some (.int .i64 body) ∧ W.cell? ⟨w.heap.size, 2, none⟩ = some (.slice A ss.length c)) ∧ (W.cell? ⟨w.heap.size + 1, 0, none⟩ = some (.slice B cs.length d) ∧ W.cell? ⟨w.heap.size + 1, 1, none⟩ = some (.slice D ns.length e)) ∧ w.heap.size + 1 < W.heap.size) (first | exact ⟨⟨k0, k1, k2⟩, ⟨m0, m1⟩, ml⟩ | go_keep) (first | (go_at_call 12; refine Calls.mono (CPF.out _ (HF.out.ext (HX.out.trans (by repeat first | exact yx0 _ | assumption | refine yxa ?_ _ | refine yxd ?_ | refine yxn ?_ _ | refine yxs ?_ (by simp <;> omega) _ | refine yxt ?_ (by assumption))))) ?_; rintro e9 w1 ⟨FA, fc, rfl, hfa, hb⟩; have hq := yxx HX.out (by repeat first | exact yx0 _ | assumption | refine yxa ?_ _ | refine yxd ?_ | refine yxn ?_ _ | refine yxs ?_ (by simp <;> omega) _ | refine yxt ?_ (by assumption)) hb; have HB9 := Lib.hid (HB.out.ext hq); have HS9 := Lib.hid (HS.out.ext hq); have HX9 := Lib.hid (HX.out.trans hq); clear k0 k1 k2 kl m0 m1 ml HB HS HX; have HB := HB9; have HS := HS9; have HX := HX9; clear HB9 HS9 HX9; obtain ⟨k0, k1, k2, kl⟩ := HB.out.c3; obtain ⟨m0, m1, _, _, ml⟩ := HS.out.c2; (try (have q9 := Lib.hid (HCF.out.ext hq); clear HCF; have HCF := q9; clear q9)); (try (have q9 := Lib.hid (HCS.out.ext hq); clear HCS; have HCS := q9; clear q9)); (try (have q9 := Lib.hid (HCI.out.ext hq); clear HCI; have HCI := q9; clear q9)); (try (have q9 := Lib.hid (HPT.out.ext hq); clear HPT; have HPT := q9; clear q9)); (try (have q9 := Lib.hid (HLI.out.ext hq); clear HLI; have HLI := q9; clear q9)); (try (have q9 := Lib.hid (HXI.out.ext hq); clear HXI; have HXI := q9; clear q9)); clear hq; have HCF := Lib.hid hfa; clear hfa hb) | (go_at_call 20; refine Calls.mono (CPS.out _ (HSR.out.ext (HX.out.trans (by repeat first | exact yx0 _ | assumption | refine yxa ?_ _ | refine yxd ?_ | refine yxn ?_ _ | refine yxs ?_ (by simp <;> omega) _ | refine yxt ?_ (by assumption))))) ?_; rintro e9 w1 ⟨st, rfl, hst, hs1, hs2, hb⟩; have hq := yxx HX.out (by repeat first | exact yx0 _ | assumption | refine yxa ?_ _ | refine yxd ?_ | refine yxn ?_ _ | refine yxs ?_ (by simp <;> omega) _ | refine yxt ?_ (by assumption)) hb; have HB9 := Lib.hid (HB.out.ext hq); have HS9 := Lib.hid (HS.out.ext hq); have HX9 := Lib.hid (HX.out.trans hq); clear k0 k1 k2 kl m0 m1 ml HB HS HX; have HB := HB9; have HS := HS9; have HX := HX9; clear HB9 HS9 HX9; obtain ⟨k0, k1, k2, kl⟩ := HB.out.c3; obtain ⟨m0, m1, _, _, ml⟩ := HS.out.c2; (try (have q9 := Lib.hid (HCF.out.ext hq); clear HCF; have HCF := q9; clear q9)); (try (have q9 := Lib.hid (HCS.out.ext hq); clear HCS; have HCS := q9; clear q9)); (try (have q9 := Lib.hid (HCI.out.ext hq); clear HCI; have HCI := q9; clear q9)); (try (have q9 := Lib.hid (HPT.out.ext hq); clear HPT; have HPT := q9; clear q9)); (try (have q9 := Lib.hid (HLI.out.ext hq); clear HLI; have HLI := q9; clear q9)); (try (have q9 := Lib.hid (HXI.out.ext hq); clear HXI; have HXI := q9; clear q9)); clear hq; have HCS := Lib.hid hst; have HS1 := Lib.hid hs1; have HS2 := Lib.hid hs2; clear hst hs1 hs2 hb) | (go_at_call 14; refine Calls.mono (CPI.out _ (HRX.out.ext (HX.out.trans (by repeat first | exact yx0 _ | assumption | refine yxa ?_ _ | refine yxd ?_ | refine yxn ?_ _ | refine yxs ?_ (by simp <;> omega) _ | refine yxt ?_ (by assumption))))) ?_; rintro e9 w1 ⟨IA, ic, rfl, hsl, hb⟩; have hq := yxx HX.out (by repeat first | exact yx0 _ | assumption | refine yxa ?_ _ | refine yxd ?_ | refine yxn ?_ _ | refine yxs ?_ (by simp <;> omega) _ | refine yxt ?_ (by assumption)) hb; have HB9 := Lib.hid (HB.out.ext hq); have HS9 := Lib.hid (HS.out.ext hq); have HX9 := Lib.hid (HX.out.trans hq); clear k0 k1 k2 kl m0 m1 ml HB HS HX; have HB := HB9; have HS := HS9; have HX := HX9; clear HB9 HS9 HX9; obtain ⟨k0, k1, k2, kl⟩ := HB.out.c3; obtain ⟨m0, m1, _, _, ml⟩ := HS.out.c2; (try (have q9 := Lib.hid (HCF.out.ext hq); clear HCF; have HCF := q9; clear q9)); (try (have q9 := Lib.hid (HCS.out.ext hq); clear HCS; have HCS := q9; clear q9)); (try (have q9 := Lib.hid (HCI.out.ext hq); clear HCI; have HCI := q9; clear q9)); (try (have q9 := Lib.hid (HPT.out.ext hq); clear HPT; have HPT := q9; clear q9)); (try (have q9 := Lib.hid (HLI.out.ext hq); clear HLI; have HLI := q9; clear q9)); (try (have q9 := Lib.hid (HXI.out.ext hq); clear HXI; have HXI := q9; clear q9)); clear hq; have HCI := Lib.hid hsl.ri; have HCC := Lib.hid hsl.cap; clear hsl hb) | (go_at_call 27; refine Calls.mono (CSN.out _ _ _ _ _ _ HS1.out HS2.out (HCF.out.ext (by repeat first | exact yx0 _ | assumption | refine yxa ?_ _ | refine yxd ?_ | refine yxn ?_ _ | refine yxs ?_ (by simp <;> omega) _ | refine yxt ?_ (by assumption))) (HCS.out.ext (by repeat first | exact yx0 _ | assumption | refine yxa ?_ _ | refine yxd ?_ | refine yxn ?_ _ | refine yxs ?_ (by simp <;> omega) _ | refine yxt ?_ (by assumption))) (HCI.out.ext (by repeat first | exact yx0 _ | assumption | refine yxa ?_ _ | refine yxd ?_ | refine yxn ?_ _ | refine yxs ?_ (by simp <;> omega) _ | refine yxt ?_ (by assumption)))) ?_; rintro e9 w1 ⟨rfl, hb⟩; clear HS1 HS2 HCC; have hq := yxx HX.out (by repeat first | exact yx0 _ | assumption | refine yxa ?_ _ | refine yxd ?_ | refine yxn ?_ _ | refine yxs ?_ (by simp <;> omega) _ | refine yxt ?_ (by assumption)) hb; have HB9 := Lib.hid (HB.out.ext hq); have HS9 := Lib.hid (HS.out.ext hq); have HX9 := Lib.hid (HX.out.trans hq); clear k0 k1 k2 kl m0 m1 ml HB HS HX; have HB := HB9; have HS := HS9; have HX := HX9; clear HB9 HS9 HX9; obtain ⟨k0, k1, k2, kl⟩ := HB.out.c3; obtain ⟨m0, m1, _, _, ml⟩ := HS.out.c2; (try (have q9 := Lib.hid (HCF.out.ext hq); clear HCF; have HCF := q9; clear q9)); (try (have q9 := Lib.hid (HCS.out.ext hq); clear HCS; have HCS := q9; clear q9)); (try (have q9 := Lib.hid (HCI.out.ext hq); clear HCI; have HCI := q9; clear q9)); (try (have q9 := Lib.hid (HPT.out.ext hq); clear HPT; have HPT := q9; clear q9)); (try (have q9 := Lib.hid (HLI.out.ext hq); clear HLI; have HLI := q9; clear q9)); (try (have q9 := Lib.hid (HXI.out.ext hq); clear HXI; have HXI := q9; clear q9)); clear hq; clear HCF HCS HCI hb))
    go_wp2
    have HB1 := HB; have HS1 := HS; have HX1 := HX
    clear k0 k1 k2 kl m0 m1 ml HB HS HX
    go_loopw [9] (fun j wr => ∃ k : Nat, k ≤ set.length ∧ j = .int .i64 (k : Int) ∧ Hid (Blk wr w.heap.size 24 #[.string name, .int .i64 body, .slice A ss.length c]) ∧ Hid (Blk wr (w.heap.size + 1) 45 #[.slice B cs.length d, .slice D ns.length e]) ∧ Hid (Ext w wr)) (fun j _ => set.length - (intOf j).toNat)
    case atStart => exact ⟨0, Nat.zero_le _, rfl, HB1, HS1, HX1⟩
    case round =>
      obtain ⟨k, hk, rfl, HB, HS, HX⟩ := hrel
      clear HB1 HS1 HX1
      obtain ⟨k0, k1, k2, kl⟩ := HB.out.c3; obtain ⟨m0, m1, _, _, ml⟩ := HS.out.c2
      by_cases hlt : k < set.length
      case pos =>
        have i3 : (k : Int) < (set.length : Int) := by omega
        obtain ⟨b, off, hX, hbw, _⟩ := HRX.out.2.2 (by omega)
        subst hX
        obtain ⟨j, hj⟩ : ∃ j, j = k + 1 := ⟨_, rfl⟩
        have htk := Cut.RI.take HRX.out hbw k (by omega)
        have hdr : RI w (if cx = j then some ⟨b, off, none⟩ else some ⟨b, off + j, none⟩) (set.length - j) (set.drop j) := by
          by_cases h : cx = j
          · exact ⟨List.length_drop, by omega, fun h1 => absurd h1 (by omega)⟩
          · rw [if_neg h]; exact Cut.RI.drop HRX.out hbw j (by omega)
        have hl1 : (set.take k).length = k := by rw [List.length_take]; omega
        have hl2 : (set.drop j).length = set.length - j := List.length_drop
        have hw1 : IntKind.i64.wrap ((k : Int) + 1) = (j : Int) := by rw [IntWalk.i64_in _ (by omega)]; omega
        have b1 : (0 : Int) ≤ (k : Int) := by omega
        have b2 : (k : Int) ≤ (cx : Int) := by omega
        have b3 : (0 : Int) ≤ (j : Int) := by omega
        have b4 : (j : Int) ≤ (set.length : Int) := by omega
        have b5 : (set.length : Int) ≤ (cx : Int) := by omega
        have CSP := Lib.hid (fun FA fc t X cx W h1 h2 h3 h4 h5 => CSQ.out k hlt FA fc t X cx W h1 h2 h3 h4 h5)
        have HSM : Hid ((set.take k).length + (set.drop j).length ≤ 1000000) := Lib.hid (by omega)
        rw [← hj] at CSP
        have HJ := Lib.hid hj
        clear hj CSQ CMS CXC
        generalize set.take k = tk at *
        generalize set.drop j = dr at *
        rw [← hl1] at htk
        obtain ⟨PA, hPA⟩ : ∃ PA, PA = (if cx = j then some ⟨b, off, none⟩ else some ⟨b, off + j, none⟩ : Option Addr) := ⟨_, rfl⟩
        rw [← hPA] at hdr
        by_cases hcj : cx = j
        case pos =>
          rw [if_pos hcj] at hPA
          subst hcj hPA
          rw [show set.length - cx = 0 by omega] at hdr
          have HTK := Lib.hid htk; have HDR := Lib.hid hdr
          have CTK : Hid (∀ W, RI W (some ⟨b, off, none⟩) tk.length tk → Calls Tryz.prog 14 #[.slice (some ⟨b, off, none⟩) k cx] W (RetS tk W)) := Lib.hid fun W h => by
            have := copyInts_any (some ⟨b, off, none⟩) cx tk W h (by omega)
            rwa [hl1] at this
          clear htk hdr hl1 hl2
          obtain ⟨l9, hl9⟩ : ∃ l, l = tk ++ dr := ⟨_, rfl⟩
          rw [← hl9] at CSP
          have HLE := Lib.hid hl9
          clear hl9
          have HPTK := HTK
          go_upto_region 11 with fail
          go_region_held3 (fun _ => True) (trivial) (first | (go_at_call 14; refine Calls.mono (CTK.out _ (HTK.out.ext (HX.out.trans (by repeat first | exact yx0 _ | assumption | refine yxa ?_ _ | refine yxd ?_ | refine yxn ?_ _ | refine yxs ?_ (by simp <;> omega) _ | refine yxt ?_ (by assumption))))) ?_; rintro e9 w2 ⟨IA, ic, rfl, hsl, hb⟩; have HX2 := Lib.hid (Ext.trans (a := wr) (by repeat first | exact yx0 _ | assumption | refine yxa ?_ _ | refine yxd ?_ | refine yxn ?_ _ | refine yxs ?_ (by simp <;> omega) _ | refine yxt ?_ (by assumption)) hb); have HO1 := Lib.hid (SL.mono hsl (Ext.size (a := wr) (by repeat first | exact yx0 _ | assumption | refine yxa ?_ _ | refine yxd ?_ | refine yxn ?_ _ | refine yxs ?_ (by simp <;> omega) _ | refine yxt ?_ (by assumption)))).own; clear hsl hb) | (refine Cut.step_appendI rfl (.tmp 56) (.tmp 60) rfl wr.heap.size _ tk rfl (HO1.out.ext (by repeat first | exact yx0 _ | assumption | refine yxa ?_ _ | refine yxd ?_ | refine yxn ?_ _ | refine yxs ?_ (by simp <;> omega) _ | refine yxt ?_ (by assumption))) _ _ _ dr rfl (HDR.out.ext (HX.out.trans (HX2.out.trans (by repeat first | exact yx0 _ | assumption | refine yxa ?_ _ | refine yxd ?_ | refine yxn ?_ _ | refine yxs ?_ (by simp <;> omega) _ | refine yxt ?_ (by assumption))))) HSM.out (Ext.size (HX2.out.trans (by repeat first | exact yx0 _ | assumption | refine yxa ?_ _ | refine yxd ?_ | refine yxn ?_ _ | refine yxs ?_ (by simp <;> omega) _ | refine yxt ?_ (by assumption)))) ?_; intro v3 W3 ho3 hg3; have HX3 := Lib.hid (show Ext wr W3 from Ext.grown (HX2.out.trans (by repeat first | exact yx0 _ | assumption | refine yxa ?_ _ | refine yxd ?_ | refine yxn ?_ _ | refine yxs ?_ (by simp <;> omega) _ | refine yxt ?_ (by assumption))) hg3 (fun q hq => HO1.out.base_le q hq)); rw [← HLE.out] at ho3; obtain ⟨PA9, pc9, hv9, _, hr9⟩ := ho3.form (by have := HSM.out; rw [HLE.out, List.length_append]; omega); subst hv9; have HPT := Lib.hid hr9; clear ho3 hg3 hr9))
          have HB3 := Lib.hid (HB.out.ext HX3.out); have HS3 := Lib.hid (HS.out.ext HX3.out); have HX4 := Lib.hid (HX.out.trans HX3.out)
          clear k0 k1 k2 kl m0 m1 ml HB HS HX
          have HB := HB3; have HS := HS3; have HX := HX4
          clear HB3 HS3 HX4 HX3 HX2 HO1
          obtain ⟨k0, k1, k2, kl⟩ := HB.out.c3; obtain ⟨m0, m1, _, _, ml⟩ := HS.out.c2
          go_upto_region 12 with fail
          go_region_held3 (fun W => (W.cell? ⟨w.heap.size, 0, none⟩ = some (.string name) ∧ W.cell? ⟨w.heap.size, 1, none⟩ = some (.int .i64 body) ∧ W.cell? ⟨w.heap.size, 2, none⟩ = some (.slice A ss.length c)) ∧ (W.cell? ⟨w.heap.size + 1, 0, none⟩ = some (.slice B cs.length d) ∧ W.cell? ⟨w.heap.size + 1, 1, none⟩ = some (.slice D ns.length e)) ∧ w.heap.size + 1 < W.heap.size) (first | exact ⟨⟨k0, k1, k2⟩, ⟨m0, m1⟩, ml⟩ | go_keep) (first | (go_at_call 12; refine Calls.mono (CPF.out _ (HF.out.ext (HX.out.trans (by repeat first | exact yx0 _ | assumption | refine yxa ?_ _ | refine yxd ?_ | refine yxn ?_ _ | refine yxs ?_ (by simp <;> omega) _ | refine yxt ?_ (by assumption))))) ?_; rintro e9 w1 ⟨FA, fc, rfl, hfa, hb⟩; have hq := yxx HX.out (by repeat first | exact yx0 _ | assumption | refine yxa ?_ _ | refine yxd ?_ | refine yxn ?_ _ | refine yxs ?_ (by simp <;> omega) _ | refine yxt ?_ (by assumption)) hb; have HB9 := Lib.hid (HB.out.ext hq); have HS9 := Lib.hid (HS.out.ext hq); have HX9 := Lib.hid (HX.out.trans hq); clear k0 k1 k2 kl m0 m1 ml HB HS HX; have HB := HB9; have HS := HS9; have HX := HX9; clear HB9 HS9 HX9; obtain ⟨k0, k1, k2, kl⟩ := HB.out.c3; obtain ⟨m0, m1, _, _, ml⟩ := HS.out.c2; (try (have q9 := Lib.hid (HCF.out.ext hq); clear HCF; have HCF := q9; clear q9)); (try (have q9 := Lib.hid (HCS.out.ext hq); clear HCS; have HCS := q9; clear q9)); (try (have q9 := Lib.hid (HCI.out.ext hq); clear HCI; have HCI := q9; clear q9)); (try (have q9 := Lib.hid (HPT.out.ext hq); clear HPT; have HPT := q9; clear q9)); (try (have q9 := Lib.hid (HLI.out.ext hq); clear HLI; have HLI := q9; clear q9)); (try (have q9 := Lib.hid (HXI.out.ext hq); clear HXI; have HXI := q9; clear q9)); clear hq; have HCF := Lib.hid hfa; clear hfa hb) | (go_at_call 20; refine Calls.mono (CPS.out _ (HSR.out.ext (HX.out.trans (by repeat first | exact yx0 _ | assumption | refine yxa ?_ _ | refine yxd ?_ | refine yxn ?_ _ | refine yxs ?_ (by simp <;> omega) _ | refine yxt ?_ (by assumption))))) ?_; rintro e9 w1 ⟨st, rfl, hst, hs1, hs2, hb⟩; have hq := yxx HX.out (by repeat first | exact yx0 _ | assumption | refine yxa ?_ _ | refine yxd ?_ | refine yxn ?_ _ | refine yxs ?_ (by simp <;> omega) _ | refine yxt ?_ (by assumption)) hb; have HB9 := Lib.hid (HB.out.ext hq); have HS9 := Lib.hid (HS.out.ext hq); have HX9 := Lib.hid (HX.out.trans hq); clear k0 k1 k2 kl m0 m1 ml HB HS HX; have HB := HB9; have HS := HS9; have HX := HX9; clear HB9 HS9 HX9; obtain ⟨k0, k1, k2, kl⟩ := HB.out.c3; obtain ⟨m0, m1, _, _, ml⟩ := HS.out.c2; (try (have q9 := Lib.hid (HCF.out.ext hq); clear HCF; have HCF := q9; clear q9)); (try (have q9 := Lib.hid (HCS.out.ext hq); clear HCS; have HCS := q9; clear q9)); (try (have q9 := Lib.hid (HCI.out.ext hq); clear HCI; have HCI := q9; clear q9)); (try (have q9 := Lib.hid (HPT.out.ext hq); clear HPT; have HPT := q9; clear q9)); (try (have q9 := Lib.hid (HLI.out.ext hq); clear HLI; have HLI := q9; clear q9)); (try (have q9 := Lib.hid (HXI.out.ext hq); clear HXI; have HXI := q9; clear q9)); clear hq; have HCS := Lib.hid hst; have HS1 := Lib.hid hs1; have HS2 := Lib.hid hs2; clear hst hs1 hs2 hb) | (go_at_call 27; refine Calls.mono (CSP.out _ _ _ _ _ _ HS1.out HS2.out (HCF.out.ext (by repeat first | exact yx0 _ | assumption | refine yxa ?_ _ | refine yxd ?_ | refine yxn ?_ _ | refine yxs ?_ (by simp <;> omega) _ | refine yxt ?_ (by assumption))) (HCS.out.ext (by repeat first | exact yx0 _ | assumption | refine yxa ?_ _ | refine yxd ?_ | refine yxn ?_ _ | refine yxs ?_ (by simp <;> omega) _ | refine yxt ?_ (by assumption))) (HPT.out.ext (by repeat first | exact yx0 _ | assumption | refine yxa ?_ _ | refine yxd ?_ | refine yxn ?_ _ | refine yxs ?_ (by simp <;> omega) _ | refine yxt ?_ (by assumption)))) ?_; rintro e9 w1 ⟨rfl, hb⟩; clear HS1 HS2; have hq := yxx HX.out (by repeat first | exact yx0 _ | assumption | refine yxa ?_ _ | refine yxd ?_ | refine yxn ?_ _ | refine yxs ?_ (by simp <;> omega) _ | refine yxt ?_ (by assumption)) hb; have HB9 := Lib.hid (HB.out.ext hq); have HS9 := Lib.hid (HS.out.ext hq); have HX9 := Lib.hid (HX.out.trans hq); clear k0 k1 k2 kl m0 m1 ml HB HS HX; have HB := HB9; have HS := HS9; have HX := HX9; clear HB9 HS9 HX9; obtain ⟨k0, k1, k2, kl⟩ := HB.out.c3; obtain ⟨m0, m1, _, _, ml⟩ := HS.out.c2; (try (have q9 := Lib.hid (HCF.out.ext hq); clear HCF; have HCF := q9; clear q9)); (try (have q9 := Lib.hid (HCS.out.ext hq); clear HCS; have HCS := q9; clear q9)); (try (have q9 := Lib.hid (HCI.out.ext hq); clear HCI; have HCI := q9; clear q9)); (try (have q9 := Lib.hid (HPT.out.ext hq); clear HPT; have HPT := q9; clear q9)); (try (have q9 := Lib.hid (HLI.out.ext hq); clear HLI; have HLI := q9; clear q9)); (try (have q9 := Lib.hid (HXI.out.ext hq); clear HXI; have HXI := q9; clear q9)); clear hq; clear HCF HCS hb))
          go_wp2
          go_roundw
          case rel => exact ⟨k + 1, by omega, by have hj9 := HJ.out; first | go_num | (congr 1; omega), HB, HS, HX⟩
          case measure => have hj9 := HJ.out; simp [intOf] <;> omega
        case neg =>
          rw [if_neg hcj] at hPA
          subst hPA
          have HTK := Lib.hid htk; have HDR := Lib.hid hdr
          have CTK : Hid (∀ W, RI W (some ⟨b, off, none⟩) tk.length tk → Calls Tryz.prog 14 #[.slice (some ⟨b, off, none⟩) k cx] W (RetS tk W)) := Lib.hid fun W h => by
            have := copyInts_any (some ⟨b, off, none⟩) cx tk W h (by omega)
            rwa [hl1] at this
          clear htk hdr hl1 hl2
          obtain ⟨l9, hl9⟩ : ∃ l, l = tk ++ dr := ⟨_, rfl⟩
          rw [← hl9] at CSP
          have HLE := Lib.hid hl9
          clear hl9
          have HPTK := HTK
          go_upto_region 11 with fail
          go_region_held3 (fun _ => True) (trivial) (first | (go_at_call 14; refine Calls.mono (CTK.out _ (HTK.out.ext (HX.out.trans (by repeat first | exact yx0 _ | assumption | refine yxa ?_ _ | refine yxd ?_ | refine yxn ?_ _ | refine yxs ?_ (by simp <;> omega) _ | refine yxt ?_ (by assumption))))) ?_; rintro e9 w2 ⟨IA, ic, rfl, hsl, hb⟩; have HX2 := Lib.hid (Ext.trans (a := wr) (by repeat first | exact yx0 _ | assumption | refine yxa ?_ _ | refine yxd ?_ | refine yxn ?_ _ | refine yxs ?_ (by simp <;> omega) _ | refine yxt ?_ (by assumption)) hb); have HO1 := Lib.hid (SL.mono hsl (Ext.size (a := wr) (by repeat first | exact yx0 _ | assumption | refine yxa ?_ _ | refine yxd ?_ | refine yxn ?_ _ | refine yxs ?_ (by simp <;> omega) _ | refine yxt ?_ (by assumption)))).own; clear hsl hb) | (refine Cut.step_appendI rfl (.tmp 56) (.tmp 60) rfl wr.heap.size _ tk rfl (HO1.out.ext (by repeat first | exact yx0 _ | assumption | refine yxa ?_ _ | refine yxd ?_ | refine yxn ?_ _ | refine yxs ?_ (by simp <;> omega) _ | refine yxt ?_ (by assumption))) _ _ _ dr rfl (HDR.out.ext (HX.out.trans (HX2.out.trans (by repeat first | exact yx0 _ | assumption | refine yxa ?_ _ | refine yxd ?_ | refine yxn ?_ _ | refine yxs ?_ (by simp <;> omega) _ | refine yxt ?_ (by assumption))))) HSM.out (Ext.size (HX2.out.trans (by repeat first | exact yx0 _ | assumption | refine yxa ?_ _ | refine yxd ?_ | refine yxn ?_ _ | refine yxs ?_ (by simp <;> omega) _ | refine yxt ?_ (by assumption)))) ?_; intro v3 W3 ho3 hg3; have HX3 := Lib.hid (show Ext wr W3 from Ext.grown (HX2.out.trans (by repeat first | exact yx0 _ | assumption | refine yxa ?_ _ | refine yxd ?_ | refine yxn ?_ _ | refine yxs ?_ (by simp <;> omega) _ | refine yxt ?_ (by assumption))) hg3 (fun q hq => HO1.out.base_le q hq)); rw [← HLE.out] at ho3; obtain ⟨PA9, pc9, hv9, _, hr9⟩ := ho3.form (by have := HSM.out; rw [HLE.out, List.length_append]; omega); subst hv9; have HPT := Lib.hid hr9; clear ho3 hg3 hr9))
          have HB3 := Lib.hid (HB.out.ext HX3.out); have HS3 := Lib.hid (HS.out.ext HX3.out); have HX4 := Lib.hid (HX.out.trans HX3.out)
          clear k0 k1 k2 kl m0 m1 ml HB HS HX
          have HB := HB3; have HS := HS3; have HX := HX4
          clear HB3 HS3 HX4 HX3 HX2 HO1
          obtain ⟨k0, k1, k2, kl⟩ := HB.out.c3; obtain ⟨m0, m1, _, _, ml⟩ := HS.out.c2
          go_upto_region 12 with fail
          go_region_held3 (fun W => (W.cell? ⟨w.heap.size, 0, none⟩ = some (.string name) ∧ W.cell? ⟨w.heap.size, 1, none⟩ = some (.int .i64 body) ∧ W.cell? ⟨w.heap.size, 2, none⟩ = some (.slice A ss.length c)) ∧ (W.cell? ⟨w.heap.size + 1, 0, none⟩ = some (.slice B cs.length d) ∧ W.cell? ⟨w.heap.size + 1, 1, none⟩ = some (.slice D ns.length e)) ∧ w.heap.size + 1 < W.heap.size) (first | exact ⟨⟨k0, k1, k2⟩, ⟨m0, m1⟩, ml⟩ | go_keep) (first | (go_at_call 12; refine Calls.mono (CPF.out _ (HF.out.ext (HX.out.trans (by repeat first | exact yx0 _ | assumption | refine yxa ?_ _ | refine yxd ?_ | refine yxn ?_ _ | refine yxs ?_ (by simp <;> omega) _ | refine yxt ?_ (by assumption))))) ?_; rintro e9 w1 ⟨FA, fc, rfl, hfa, hb⟩; have hq := yxx HX.out (by repeat first | exact yx0 _ | assumption | refine yxa ?_ _ | refine yxd ?_ | refine yxn ?_ _ | refine yxs ?_ (by simp <;> omega) _ | refine yxt ?_ (by assumption)) hb; have HB9 := Lib.hid (HB.out.ext hq); have HS9 := Lib.hid (HS.out.ext hq); have HX9 := Lib.hid (HX.out.trans hq); clear k0 k1 k2 kl m0 m1 ml HB HS HX; have HB := HB9; have HS := HS9; have HX := HX9; clear HB9 HS9 HX9; obtain ⟨k0, k1, k2, kl⟩ := HB.out.c3; obtain ⟨m0, m1, _, _, ml⟩ := HS.out.c2; (try (have q9 := Lib.hid (HCF.out.ext hq); clear HCF; have HCF := q9; clear q9)); (try (have q9 := Lib.hid (HCS.out.ext hq); clear HCS; have HCS := q9; clear q9)); (try (have q9 := Lib.hid (HCI.out.ext hq); clear HCI; have HCI := q9; clear q9)); (try (have q9 := Lib.hid (HPT.out.ext hq); clear HPT; have HPT := q9; clear q9)); (try (have q9 := Lib.hid (HLI.out.ext hq); clear HLI; have HLI := q9; clear q9)); (try (have q9 := Lib.hid (HXI.out.ext hq); clear HXI; have HXI := q9; clear q9)); clear hq; have HCF := Lib.hid hfa; clear hfa hb) | (go_at_call 20; refine Calls.mono (CPS.out _ (HSR.out.ext (HX.out.trans (by repeat first | exact yx0 _ | assumption | refine yxa ?_ _ | refine yxd ?_ | refine yxn ?_ _ | refine yxs ?_ (by simp <;> omega) _ | refine yxt ?_ (by assumption))))) ?_; rintro e9 w1 ⟨st, rfl, hst, hs1, hs2, hb⟩; have hq := yxx HX.out (by repeat first | exact yx0 _ | assumption | refine yxa ?_ _ | refine yxd ?_ | refine yxn ?_ _ | refine yxs ?_ (by simp <;> omega) _ | refine yxt ?_ (by assumption)) hb; have HB9 := Lib.hid (HB.out.ext hq); have HS9 := Lib.hid (HS.out.ext hq); have HX9 := Lib.hid (HX.out.trans hq); clear k0 k1 k2 kl m0 m1 ml HB HS HX; have HB := HB9; have HS := HS9; have HX := HX9; clear HB9 HS9 HX9; obtain ⟨k0, k1, k2, kl⟩ := HB.out.c3; obtain ⟨m0, m1, _, _, ml⟩ := HS.out.c2; (try (have q9 := Lib.hid (HCF.out.ext hq); clear HCF; have HCF := q9; clear q9)); (try (have q9 := Lib.hid (HCS.out.ext hq); clear HCS; have HCS := q9; clear q9)); (try (have q9 := Lib.hid (HCI.out.ext hq); clear HCI; have HCI := q9; clear q9)); (try (have q9 := Lib.hid (HPT.out.ext hq); clear HPT; have HPT := q9; clear q9)); (try (have q9 := Lib.hid (HLI.out.ext hq); clear HLI; have HLI := q9; clear q9)); (try (have q9 := Lib.hid (HXI.out.ext hq); clear HXI; have HXI := q9; clear q9)); clear hq; have HCS := Lib.hid hst; have HS1 := Lib.hid hs1; have HS2 := Lib.hid hs2; clear hst hs1 hs2 hb) | (go_at_call 27; refine Calls.mono (CSP.out _ _ _ _ _ _ HS1.out HS2.out (HCF.out.ext (by repeat first | exact yx0 _ | assumption | refine yxa ?_ _ | refine yxd ?_ | refine yxn ?_ _ | refine yxs ?_ (by simp <;> omega) _ | refine yxt ?_ (by assumption))) (HCS.out.ext (by repeat first | exact yx0 _ | assumption | refine yxa ?_ _ | refine yxd ?_ | refine yxn ?_ _ | refine yxs ?_ (by simp <;> omega) _ | refine yxt ?_ (by assumption))) (HPT.out.ext (by repeat first | exact yx0 _ | assumption | refine yxa ?_ _ | refine yxd ?_ | refine yxn ?_ _ | refine yxs ?_ (by simp <;> omega) _ | refine yxt ?_ (by assumption)))) ?_; rintro e9 w1 ⟨rfl, hb⟩; clear HS1 HS2; have hq := yxx HX.out (by repeat first | exact yx0 _ | assumption | refine yxa ?_ _ | refine yxd ?_ | refine yxn ?_ _ | refine yxs ?_ (by simp <;> omega) _ | refine yxt ?_ (by assumption)) hb; have HB9 := Lib.hid (HB.out.ext hq); have HS9 := Lib.hid (HS.out.ext hq); have HX9 := Lib.hid (HX.out.trans hq); clear k0 k1 k2 kl m0 m1 ml HB HS HX; have HB := HB9; have HS := HS9; have HX := HX9; clear HB9 HS9 HX9; obtain ⟨k0, k1, k2, kl⟩ := HB.out.c3; obtain ⟨m0, m1, _, _, ml⟩ := HS.out.c2; (try (have q9 := Lib.hid (HCF.out.ext hq); clear HCF; have HCF := q9; clear q9)); (try (have q9 := Lib.hid (HCS.out.ext hq); clear HCS; have HCS := q9; clear q9)); (try (have q9 := Lib.hid (HCI.out.ext hq); clear HCI; have HCI := q9; clear q9)); (try (have q9 := Lib.hid (HPT.out.ext hq); clear HPT; have HPT := q9; clear q9)); (try (have q9 := Lib.hid (HLI.out.ext hq); clear HLI; have HLI := q9; clear q9)); (try (have q9 := Lib.hid (HXI.out.ext hq); clear HXI; have HXI := q9; clear q9)); clear hq; clear HCF HCS hb))
          go_wp2
          go_roundw
          case rel => exact ⟨k + 1, by omega, by have hj9 := HJ.out; first | go_num | (congr 1; omega), HB, HS, HX⟩
          case measure => have hj9 := HJ.out; simp [intOf] <;> omega
      case neg =>
        obtain rfl : k = set.length := by omega
        have i3 : ¬ (set.length : Int) < (set.length : Int) := by omega
        clear hlt
        go_upto_region 15 with fail
        go_region_held3 (fun W => (W.cell? ⟨w.heap.size, 0, none⟩ = some (.string name) ∧ W.cell? ⟨w.heap.size, 1, none⟩ = some (.int .i64 body) ∧ W.cell? ⟨w.heap.size, 2, none⟩ = some (.slice A ss.length c)) ∧ (W.cell? ⟨w.heap.size + 1, 0, none⟩ = some (.slice B cs.length d) ∧ W.cell? ⟨w.heap.size + 1, 1, none⟩ = some (.slice D ns.length e)) ∧ w.heap.size + 1 < W.heap.size) (first | exact ⟨⟨k0, k1, k2⟩, ⟨m0, m1⟩, ml⟩ | go_keep) (first | (go_at_call 12; refine Calls.mono (CPF.out _ (HF.out.ext (HX.out.trans (by repeat first | exact yx0 _ | assumption | refine yxa ?_ _ | refine yxd ?_ | refine yxn ?_ _ | refine yxs ?_ (by simp <;> omega) _ | refine yxt ?_ (by assumption))))) ?_; rintro e9 w1 ⟨FA, fc, rfl, hfa, hb⟩; have hq := yxx HX.out (by repeat first | exact yx0 _ | assumption | refine yxa ?_ _ | refine yxd ?_ | refine yxn ?_ _ | refine yxs ?_ (by simp <;> omega) _ | refine yxt ?_ (by assumption)) hb; have HB9 := Lib.hid (HB.out.ext hq); have HS9 := Lib.hid (HS.out.ext hq); have HX9 := Lib.hid (HX.out.trans hq); clear k0 k1 k2 kl m0 m1 ml HB HS HX; have HB := HB9; have HS := HS9; have HX := HX9; clear HB9 HS9 HX9; obtain ⟨k0, k1, k2, kl⟩ := HB.out.c3; obtain ⟨m0, m1, _, _, ml⟩ := HS.out.c2; (try (have q9 := Lib.hid (HCF.out.ext hq); clear HCF; have HCF := q9; clear q9)); (try (have q9 := Lib.hid (HCS.out.ext hq); clear HCS; have HCS := q9; clear q9)); (try (have q9 := Lib.hid (HCI.out.ext hq); clear HCI; have HCI := q9; clear q9)); (try (have q9 := Lib.hid (HPT.out.ext hq); clear HPT; have HPT := q9; clear q9)); (try (have q9 := Lib.hid (HLI.out.ext hq); clear HLI; have HLI := q9; clear q9)); (try (have q9 := Lib.hid (HXI.out.ext hq); clear HXI; have HXI := q9; clear q9)); clear hq; have HCF := Lib.hid hfa; clear hfa hb) | (go_at_call 20; refine Calls.mono (CPS.out _ (HSR.out.ext (HX.out.trans (by repeat first | exact yx0 _ | assumption | refine yxa ?_ _ | refine yxd ?_ | refine yxn ?_ _ | refine yxs ?_ (by simp <;> omega) _ | refine yxt ?_ (by assumption))))) ?_; rintro e9 w1 ⟨st, rfl, hst, hs1, hs2, hb⟩; have hq := yxx HX.out (by repeat first | exact yx0 _ | assumption | refine yxa ?_ _ | refine yxd ?_ | refine yxn ?_ _ | refine yxs ?_ (by simp <;> omega) _ | refine yxt ?_ (by assumption)) hb; have HB9 := Lib.hid (HB.out.ext hq); have HS9 := Lib.hid (HS.out.ext hq); have HX9 := Lib.hid (HX.out.trans hq); clear k0 k1 k2 kl m0 m1 ml HB HS HX; have HB := HB9; have HS := HS9; have HX := HX9; clear HB9 HS9 HX9; obtain ⟨k0, k1, k2, kl⟩ := HB.out.c3; obtain ⟨m0, m1, _, _, ml⟩ := HS.out.c2; (try (have q9 := Lib.hid (HCF.out.ext hq); clear HCF; have HCF := q9; clear q9)); (try (have q9 := Lib.hid (HCS.out.ext hq); clear HCS; have HCS := q9; clear q9)); (try (have q9 := Lib.hid (HCI.out.ext hq); clear HCI; have HCI := q9; clear q9)); (try (have q9 := Lib.hid (HPT.out.ext hq); clear HPT; have HPT := q9; clear q9)); (try (have q9 := Lib.hid (HLI.out.ext hq); clear HLI; have HLI := q9; clear q9)); (try (have q9 := Lib.hid (HXI.out.ext hq); clear HXI; have HXI := q9; clear q9)); clear hq; have HCS := Lib.hid hst; have HS1 := Lib.hid hs1; have HS2 := Lib.hid hs2; clear hst hs1 hs2 hb) | (go_at_call 19; refine Calls.mono (CMS.out _ _ _ _ HS1.out HS2.out (HCF.out.ext (by repeat first | exact yx0 _ | assumption | refine yxa ?_ _ | refine yxd ?_ | refine yxn ?_ _ | refine yxs ?_ (by simp <;> omega) _ | refine yxt ?_ (by assumption))) (HCS.out.ext (by repeat first | exact yx0 _ | assumption | refine yxa ?_ _ | refine yxd ?_ | refine yxn ?_ _ | refine yxs ?_ (by simp <;> omega) _ | refine yxt ?_ (by assumption)))) ?_; rintro e9 w1 ⟨LA, lc, rfl, hri, hb⟩; clear HS1 HS2; have hq := yxx HX.out (by repeat first | exact yx0 _ | assumption | refine yxa ?_ _ | refine yxd ?_ | refine yxn ?_ _ | refine yxs ?_ (by simp <;> omega) _ | refine yxt ?_ (by assumption)) hb; have HB9 := Lib.hid (HB.out.ext hq); have HS9 := Lib.hid (HS.out.ext hq); have HX9 := Lib.hid (HX.out.trans hq); clear k0 k1 k2 kl m0 m1 ml HB HS HX; have HB := HB9; have HS := HS9; have HX := HX9; clear HB9 HS9 HX9; obtain ⟨k0, k1, k2, kl⟩ := HB.out.c3; obtain ⟨m0, m1, _, _, ml⟩ := HS.out.c2; (try (have q9 := Lib.hid (HCF.out.ext hq); clear HCF; have HCF := q9; clear q9)); (try (have q9 := Lib.hid (HCS.out.ext hq); clear HCS; have HCS := q9; clear q9)); (try (have q9 := Lib.hid (HCI.out.ext hq); clear HCI; have HCI := q9; clear q9)); (try (have q9 := Lib.hid (HPT.out.ext hq); clear HPT; have HPT := q9; clear q9)); (try (have q9 := Lib.hid (HLI.out.ext hq); clear HLI; have HLI := q9; clear q9)); (try (have q9 := Lib.hid (HXI.out.ext hq); clear HXI; have HXI := q9; clear q9)); clear hq; have HLI := Lib.hid hri; clear HCF HCS hri hb))
        go_upto_region 16 with fail
        go_region_held3 (fun W => (W.cell? ⟨w.heap.size, 0, none⟩ = some (.string name) ∧ W.cell? ⟨w.heap.size, 1, none⟩ = some (.int .i64 body) ∧ W.cell? ⟨w.heap.size, 2, none⟩ = some (.slice A ss.length c)) ∧ (W.cell? ⟨w.heap.size + 1, 0, none⟩ = some (.slice B cs.length d) ∧ W.cell? ⟨w.heap.size + 1, 1, none⟩ = some (.slice D ns.length e)) ∧ w.heap.size + 1 < W.heap.size) (first | exact ⟨⟨k0, k1, k2⟩, ⟨m0, m1⟩, ml⟩ | go_keep) (first | (go_at_call 12; refine Calls.mono (CPF.out _ (HF.out.ext (HX.out.trans (by repeat first | exact yx0 _ | assumption | refine yxa ?_ _ | refine yxd ?_ | refine yxn ?_ _ | refine yxs ?_ (by simp <;> omega) _ | refine yxt ?_ (by assumption))))) ?_; rintro e9 w1 ⟨FA, fc, rfl, hfa, hb⟩; have hq := yxx HX.out (by repeat first | exact yx0 _ | assumption | refine yxa ?_ _ | refine yxd ?_ | refine yxn ?_ _ | refine yxs ?_ (by simp <;> omega) _ | refine yxt ?_ (by assumption)) hb; have HB9 := Lib.hid (HB.out.ext hq); have HS9 := Lib.hid (HS.out.ext hq); have HX9 := Lib.hid (HX.out.trans hq); clear k0 k1 k2 kl m0 m1 ml HB HS HX; have HB := HB9; have HS := HS9; have HX := HX9; clear HB9 HS9 HX9; obtain ⟨k0, k1, k2, kl⟩ := HB.out.c3; obtain ⟨m0, m1, _, _, ml⟩ := HS.out.c2; (try (have q9 := Lib.hid (HCF.out.ext hq); clear HCF; have HCF := q9; clear q9)); (try (have q9 := Lib.hid (HCS.out.ext hq); clear HCS; have HCS := q9; clear q9)); (try (have q9 := Lib.hid (HCI.out.ext hq); clear HCI; have HCI := q9; clear q9)); (try (have q9 := Lib.hid (HPT.out.ext hq); clear HPT; have HPT := q9; clear q9)); (try (have q9 := Lib.hid (HLI.out.ext hq); clear HLI; have HLI := q9; clear q9)); (try (have q9 := Lib.hid (HXI.out.ext hq); clear HXI; have HXI := q9; clear q9)); clear hq; have HCF := Lib.hid hfa; clear hfa hb) | (go_at_call 20; refine Calls.mono (CPS.out _ (HSR.out.ext (HX.out.trans (by repeat first | exact yx0 _ | assumption | refine yxa ?_ _ | refine yxd ?_ | refine yxn ?_ _ | refine yxs ?_ (by simp <;> omega) _ | refine yxt ?_ (by assumption))))) ?_; rintro e9 w1 ⟨st, rfl, hst, hs1, hs2, hb⟩; have hq := yxx HX.out (by repeat first | exact yx0 _ | assumption | refine yxa ?_ _ | refine yxd ?_ | refine yxn ?_ _ | refine yxs ?_ (by simp <;> omega) _ | refine yxt ?_ (by assumption)) hb; have HB9 := Lib.hid (HB.out.ext hq); have HS9 := Lib.hid (HS.out.ext hq); have HX9 := Lib.hid (HX.out.trans hq); clear k0 k1 k2 kl m0 m1 ml HB HS HX; have HB := HB9; have HS := HS9; have HX := HX9; clear HB9 HS9 HX9; obtain ⟨k0, k1, k2, kl⟩ := HB.out.c3; obtain ⟨m0, m1, _, _, ml⟩ := HS.out.c2; (try (have q9 := Lib.hid (HCF.out.ext hq); clear HCF; have HCF := q9; clear q9)); (try (have q9 := Lib.hid (HCS.out.ext hq); clear HCS; have HCS := q9; clear q9)); (try (have q9 := Lib.hid (HCI.out.ext hq); clear HCI; have HCI := q9; clear q9)); (try (have q9 := Lib.hid (HPT.out.ext hq); clear HPT; have HPT := q9; clear q9)); (try (have q9 := Lib.hid (HLI.out.ext hq); clear HLI; have HLI := q9; clear q9)); (try (have q9 := Lib.hid (HXI.out.ext hq); clear HXI; have HXI := q9; clear q9)); clear hq; have HCS := Lib.hid hst; have HS1 := Lib.hid hs1; have HS2 := Lib.hid hs2; clear hst hs1 hs2 hb) | (go_at_call 21; refine Calls.mono (CXC.out _ _ _ _ HS1.out HS2.out (HCF.out.ext (by repeat first | exact yx0 _ | assumption | refine yxa ?_ _ | refine yxd ?_ | refine yxn ?_ _ | refine yxs ?_ (by simp <;> omega) _ | refine yxt ?_ (by assumption))) (HCS.out.ext (by repeat first | exact yx0 _ | assumption | refine yxa ?_ _ | refine yxd ?_ | refine yxn ?_ _ | refine yxs ?_ (by simp <;> omega) _ | refine yxt ?_ (by assumption)))) ?_; rintro e9 w1 ⟨XA, xc, rfl, hri, hb⟩; clear HS1 HS2; have hq := yxx HX.out (by repeat first | exact yx0 _ | assumption | refine yxa ?_ _ | refine yxd ?_ | refine yxn ?_ _ | refine yxs ?_ (by simp <;> omega) _ | refine yxt ?_ (by assumption)) hb; have HB9 := Lib.hid (HB.out.ext hq); have HS9 := Lib.hid (HS.out.ext hq); have HX9 := Lib.hid (HX.out.trans hq); clear k0 k1 k2 kl m0 m1 ml HB HS HX; have HB := HB9; have HS := HS9; have HX := HX9; clear HB9 HS9 HX9; obtain ⟨k0, k1, k2, kl⟩ := HB.out.c3; obtain ⟨m0, m1, _, _, ml⟩ := HS.out.c2; (try (have q9 := Lib.hid (HCF.out.ext hq); clear HCF; have HCF := q9; clear q9)); (try (have q9 := Lib.hid (HCS.out.ext hq); clear HCS; have HCS := q9; clear q9)); (try (have q9 := Lib.hid (HCI.out.ext hq); clear HCI; have HCI := q9; clear q9)); (try (have q9 := Lib.hid (HPT.out.ext hq); clear HPT; have HPT := q9; clear q9)); (try (have q9 := Lib.hid (HLI.out.ext hq); clear HLI; have HLI := q9; clear q9)); (try (have q9 := Lib.hid (HXI.out.ext hq); clear HXI; have HXI := q9; clear q9)); clear hq; have HXI := Lib.hid hri; clear HCF HCS hri hb))
        skip
        have i8 : ¬ (0 : Int) < (([] : List Int).length : Int) := by simp
        go_wp2
        have HX1 := HX
        clear k0 k1 k2 kl m0 m1 ml HB HS HX
        go_loopw [19, 18] (fun j v wr => j = .int .i64 0 ∧ v = .bool false ∧ Hid (Ext w wr)) (fun _ _ _ => 0)
        case atStart => exact ⟨rfl, rfl, HX1⟩
        case round =>
          obtain ⟨rfl, rfl, HX⟩ := hrel
          clear HX1
          go_wp2
          go_ret
          exact Ret.mk' (by first | rfl | simp) (HX.out.trans (by repeat first | exact yx0 _ | assumption | refine yxa ?_ _ | refine yxd ?_ | refine yxn ?_ _ | refine yxs ?_ (by simp <;> omega) _ | refine yxt ?_ (by assumption)))
  · have v1 : exvL f s = l := by unfold exvL lstV; rw [if_neg (by simpa using hst), e1]; rfl
    have v3 : exvE f s = 0 := by unfold exvE lstV; rw [if_neg (by simpa using hst), e1]
    have HAF := Lib.hid (allTo_false (hfw2 l e4 e5))
    have HLP : Hid (0 < l.length) := Lib.hid (List.length_pos_iff.2 e3)
    rw [v1, v3] at cXC
    clear v1 v3 e1 e3 e4 e5 hst hse hsh hp hR hcs hnd hfw1 hfw2 hmv
    generalize exvN f s = vN at *
    generalize mostV f s = mo at *
    generalize psN f s set = pn at *
    obtain ⟨name, body, ss⟩ := f
    obtain ⟨B, d, cs, D, e, ns⟩ := s
    simp only [FT.val] at *
    have hsv : ST.val ⟨B, d, cs, D, e, ns⟩ = .agg #[.slice B cs.length d, .slice D ns.length e] := rfl
    rw [hsv] at cSF cPS
    rw [hsv]
    have CFW := Lib.hid cFW; have CSF := Lib.hid cSF; have CPF := Lib.hid cPF; have CPS := Lib.hid cPS; have CSN := Lib.hid cSN1; have CMS := Lib.hid cMS; have CXC := Lib.hid cXC; have CSQ := Lib.hid cSQ
    clear cFW cSF cPF cPS cSN1 cMS cXC cSQ hfw hsf hf123 hsv hl
    go_enter Tryz.func5, Tryz.ntmps5
    obtain ⟨wq, hwq⟩ : ∃ wq, (w.alloc (.cells #[.string name, .int .i64 body, .slice A ss.length c] 24)).alloc (.cells #[.slice B cs.length d, .slice D ns.length e] 45) = wq := ⟨_, rfl⟩
    have HB : Hid (Blk wq w.heap.size 24 #[.string name, .int .i64 body, .slice A ss.length c]) := Lib.hid (by rw [← hwq]; exact (Blk.new w _ _).alloc _)
    have HS : Hid (Blk wq (w.heap.size + 1) 45 #[.slice B cs.length d, .slice D ns.length e]) := Lib.hid (by rw [← hwq]; exact Blk.new1 w _ _ _)
    have HX : Hid (Ext w wq) := Lib.hid (by rw [← hwq]; exact (by repeat first | exact yx0 _ | assumption | refine yxa ?_ _ | refine yxd ?_ | refine yxn ?_ _ | refine yxs ?_ (by simp <;> omega) _ | refine yxt ?_ (by assumption)))
    go_upto_region 1 with fail
    (try rw [hwq])
    clear hwq
    obtain ⟨k0, k1, k2, kl⟩ := HB.out.c3; obtain ⟨m0, m1, _, _, ml⟩ := HS.out.c2
    go_upto_region 5 with (first | (go_at_call 8; refine Calls.mono (CA.out _ (HT.out.ext (HX.out.trans (by repeat first | exact yx0 _ | assumption | refine yxa ?_ _ | refine yxd ?_ | refine yxn ?_ _ | refine yxs ?_ (by simp <;> omega) _ | refine yxt ?_ (by assumption))))) ?_; rintro e9 w1 ⟨rfl, hb⟩; have hq := yxx HX.out (by repeat first | exact yx0 _ | assumption | refine yxa ?_ _ | refine yxd ?_ | refine yxn ?_ _ | refine yxs ?_ (by simp <;> omega) _ | refine yxt ?_ (by assumption)) hb; have HB9 := Lib.hid (HB.out.ext hq); have HS9 := Lib.hid (HS.out.ext hq); have HX9 := Lib.hid (HX.out.trans hq); clear k0 k1 k2 kl m0 m1 ml HB HS HX; have HB := HB9; have HS := HS9; have HX := HX9; clear HB9 HS9 HX9; obtain ⟨k0, k1, k2, kl⟩ := HB.out.c3; obtain ⟨m0, m1, _, _, ml⟩ := HS.out.c2; (try (have q9 := Lib.hid (HCF.out.ext hq); clear HCF; have HCF := q9; clear q9)); (try (have q9 := Lib.hid (HCS.out.ext hq); clear HCS; have HCS := q9; clear q9)); (try (have q9 := Lib.hid (HCI.out.ext hq); clear HCI; have HCI := q9; clear q9)); (try (have q9 := Lib.hid (HPT.out.ext hq); clear HPT; have HPT := q9; clear q9)); (try (have q9 := Lib.hid (HLI.out.ext hq); clear HLI; have HLI := q9; clear q9)); (try (have q9 := Lib.hid (HXI.out.ext hq); clear HXI; have HXI := q9; clear q9)); clear hq; clear hb) | (go_at_call 17; refine Calls.mono (CFW.out _ (HF.out.ext (HX.out.trans (by repeat first | exact yx0 _ | assumption | refine yxa ?_ _ | refine yxd ?_ | refine yxn ?_ _ | refine yxs ?_ (by simp <;> omega) _ | refine yxt ?_ (by assumption))))) ?_; rintro e9 w1 ⟨rfl, hb⟩; have hq := yxx HX.out (by repeat first | exact yx0 _ | assumption | refine yxa ?_ _ | refine yxd ?_ | refine yxn ?_ _ | refine yxs ?_ (by simp <;> omega) _ | refine yxt ?_ (by assumption)) hb; have HB9 := Lib.hid (HB.out.ext hq); have HS9 := Lib.hid (HS.out.ext hq); have HX9 := Lib.hid (HX.out.trans hq); clear k0 k1 k2 kl m0 m1 ml HB HS HX; have HB := HB9; have HS := HS9; have HX := HX9; clear HB9 HS9 HX9; obtain ⟨k0, k1, k2, kl⟩ := HB.out.c3; obtain ⟨m0, m1, _, _, ml⟩ := HS.out.c2; (try (have q9 := Lib.hid (HCF.out.ext hq); clear HCF; have HCF := q9; clear q9)); (try (have q9 := Lib.hid (HCS.out.ext hq); clear HCS; have HCS := q9; clear q9)); (try (have q9 := Lib.hid (HCI.out.ext hq); clear HCI; have HCI := q9; clear q9)); (try (have q9 := Lib.hid (HPT.out.ext hq); clear HPT; have HPT := q9; clear q9)); (try (have q9 := Lib.hid (HLI.out.ext hq); clear HLI; have HLI := q9; clear q9)); (try (have q9 := Lib.hid (HXI.out.ext hq); clear HXI; have HXI := q9; clear q9)); clear hq; clear hb) | (go_at_call 18; refine Calls.mono (CSF.out _ (HSR.out.ext (HX.out.trans (by repeat first | exact yx0 _ | assumption | refine yxa ?_ _ | refine yxd ?_ | refine yxn ?_ _ | refine yxs ?_ (by simp <;> omega) _ | refine yxt ?_ (by assumption))))) ?_; rintro e9 w1 ⟨rfl, hb⟩; have hq := yxx HX.out (by repeat first | exact yx0 _ | assumption | refine yxa ?_ _ | refine yxd ?_ | refine yxn ?_ _ | refine yxs ?_ (by simp <;> omega) _ | refine yxt ?_ (by assumption)) hb; have HB9 := Lib.hid (HB.out.ext hq); have HS9 := Lib.hid (HS.out.ext hq); have HX9 := Lib.hid (HX.out.trans hq); clear k0 k1 k2 kl m0 m1 ml HB HS HX; have HB := HB9; have HS := HS9; have HX := HX9; clear HB9 HS9 HX9; obtain ⟨k0, k1, k2, kl⟩ := HB.out.c3; obtain ⟨m0, m1, _, _, ml⟩ := HS.out.c2; (try (have q9 := Lib.hid (HCF.out.ext hq); clear HCF; have HCF := q9; clear q9)); (try (have q9 := Lib.hid (HCS.out.ext hq); clear HCS; have HCS := q9; clear q9)); (try (have q9 := Lib.hid (HCI.out.ext hq); clear HCI; have HCI := q9; clear q9)); (try (have q9 := Lib.hid (HPT.out.ext hq); clear HPT; have HPT := q9; clear q9)); (try (have q9 := Lib.hid (HLI.out.ext hq); clear HLI; have HLI := q9; clear q9)); (try (have q9 := Lib.hid (HXI.out.ext hq); clear HXI; have HXI := q9; clear q9)); clear hq; clear hb))
    go_region_held3 (fun W => (W.cell? ⟨w.heap.size, 0, none⟩ = some (.string name) ∧ W.cell? ⟨w.heap.size, 1, none⟩ = some (.int .i64 body) ∧ W.cell? ⟨w.heap.size, 2, none⟩ = some (.slice A ss.length c)) ∧ (W.cell? ⟨w.heap.size + 1, 0, none⟩ = some (.slice B cs.length d) ∧ W.cell? ⟨w.heap.size + 1, 1, none⟩ = some (.slice D ns.length e)) ∧ w.heap.size + 1 < W.heap.size) (first | exact ⟨⟨k0, k1, k2⟩, ⟨m0, m1⟩, ml⟩ | go_keep) (first | (go_at_call 12; refine Calls.mono (CPF.out _ (HF.out.ext (HX.out.trans (by repeat first | exact yx0 _ | assumption | refine yxa ?_ _ | refine yxd ?_ | refine yxn ?_ _ | refine yxs ?_ (by simp <;> omega) _ | refine yxt ?_ (by assumption))))) ?_; rintro e9 w1 ⟨FA, fc, rfl, hfa, hb⟩; have hq := yxx HX.out (by repeat first | exact yx0 _ | assumption | refine yxa ?_ _ | refine yxd ?_ | refine yxn ?_ _ | refine yxs ?_ (by simp <;> omega) _ | refine yxt ?_ (by assumption)) hb; have HB9 := Lib.hid (HB.out.ext hq); have HS9 := Lib.hid (HS.out.ext hq); have HX9 := Lib.hid (HX.out.trans hq); clear k0 k1 k2 kl m0 m1 ml HB HS HX; have HB := HB9; have HS := HS9; have HX := HX9; clear HB9 HS9 HX9; obtain ⟨k0, k1, k2, kl⟩ := HB.out.c3; obtain ⟨m0, m1, _, _, ml⟩ := HS.out.c2; (try (have q9 := Lib.hid (HCF.out.ext hq); clear HCF; have HCF := q9; clear q9)); (try (have q9 := Lib.hid (HCS.out.ext hq); clear HCS; have HCS := q9; clear q9)); (try (have q9 := Lib.hid (HCI.out.ext hq); clear HCI; have HCI := q9; clear q9)); (try (have q9 := Lib.hid (HPT.out.ext hq); clear HPT; have HPT := q9; clear q9)); (try (have q9 := Lib.hid (HLI.out.ext hq); clear HLI; have HLI := q9; clear q9)); (try (have q9 := Lib.hid (HXI.out.ext hq); clear HXI; have HXI := q9; clear q9)); clear hq; have HCF := Lib.hid hfa; clear hfa hb) | (go_at_call 20; refine Calls.mono (CPS.out _ (HSR.out.ext (HX.out.trans (by repeat first | exact yx0 _ | assumption | refine yxa ?_ _ | refine yxd ?_ | refine yxn ?_ _ | refine yxs ?_ (by simp <;> omega) _ | refine yxt ?_ (by assumption))))) ?_; rintro e9 w1 ⟨st, rfl, hst, hs1, hs2, hb⟩; have hq := yxx HX.out (by repeat first | exact yx0 _ | assumption | refine yxa ?_ _ | refine yxd ?_ | refine yxn ?_ _ | refine yxs ?_ (by simp <;> omega) _ | refine yxt ?_ (by assumption)) hb; have HB9 := Lib.hid (HB.out.ext hq); have HS9 := Lib.hid (HS.out.ext hq); have HX9 := Lib.hid (HX.out.trans hq); clear k0 k1 k2 kl m0 m1 ml HB HS HX; have HB := HB9; have HS := HS9; have HX := HX9; clear HB9 HS9 HX9; obtain ⟨k0, k1, k2, kl⟩ := HB.out.c3; obtain ⟨m0, m1, _, _, ml⟩ := HS.out.c2; (try (have q9 := Lib.hid (HCF.out.ext hq); clear HCF; have HCF := q9; clear q9)); (try (have q9 := Lib.hid (HCS.out.ext hq); clear HCS; have HCS := q9; clear q9)); (try (have q9 := Lib.hid (HCI.out.ext hq); clear HCI; have HCI := q9; clear q9)); (try (have q9 := Lib.hid (HPT.out.ext hq); clear HPT; have HPT := q9; clear q9)); (try (have q9 := Lib.hid (HLI.out.ext hq); clear HLI; have HLI := q9; clear q9)); (try (have q9 := Lib.hid (HXI.out.ext hq); clear HXI; have HXI := q9; clear q9)); clear hq; have HCS := Lib.hid hst; have HS1 := Lib.hid hs1; have HS2 := Lib.hid hs2; clear hst hs1 hs2 hb) | (go_at_call 14; refine Calls.mono (CPI.out _ (HRX.out.ext (HX.out.trans (by repeat first | exact yx0 _ | assumption | refine yxa ?_ _ | refine yxd ?_ | refine yxn ?_ _ | refine yxs ?_ (by simp <;> omega) _ | refine yxt ?_ (by assumption))))) ?_; rintro e9 w1 ⟨IA, ic, rfl, hsl, hb⟩; have hq := yxx HX.out (by repeat first | exact yx0 _ | assumption | refine yxa ?_ _ | refine yxd ?_ | refine yxn ?_ _ | refine yxs ?_ (by simp <;> omega) _ | refine yxt ?_ (by assumption)) hb; have HB9 := Lib.hid (HB.out.ext hq); have HS9 := Lib.hid (HS.out.ext hq); have HX9 := Lib.hid (HX.out.trans hq); clear k0 k1 k2 kl m0 m1 ml HB HS HX; have HB := HB9; have HS := HS9; have HX := HX9; clear HB9 HS9 HX9; obtain ⟨k0, k1, k2, kl⟩ := HB.out.c3; obtain ⟨m0, m1, _, _, ml⟩ := HS.out.c2; (try (have q9 := Lib.hid (HCF.out.ext hq); clear HCF; have HCF := q9; clear q9)); (try (have q9 := Lib.hid (HCS.out.ext hq); clear HCS; have HCS := q9; clear q9)); (try (have q9 := Lib.hid (HCI.out.ext hq); clear HCI; have HCI := q9; clear q9)); (try (have q9 := Lib.hid (HPT.out.ext hq); clear HPT; have HPT := q9; clear q9)); (try (have q9 := Lib.hid (HLI.out.ext hq); clear HLI; have HLI := q9; clear q9)); (try (have q9 := Lib.hid (HXI.out.ext hq); clear HXI; have HXI := q9; clear q9)); clear hq; have HCI := Lib.hid hsl.ri; have HCC := Lib.hid hsl.cap; clear hsl hb) | (go_at_call 27; refine Calls.mono (CSN.out _ _ _ _ _ _ HS1.out HS2.out (HCF.out.ext (by repeat first | exact yx0 _ | assumption | refine yxa ?_ _ | refine yxd ?_ | refine yxn ?_ _ | refine yxs ?_ (by simp <;> omega) _ | refine yxt ?_ (by assumption))) (HCS.out.ext (by repeat first | exact yx0 _ | assumption | refine yxa ?_ _ | refine yxd ?_ | refine yxn ?_ _ | refine yxs ?_ (by simp <;> omega) _ | refine yxt ?_ (by assumption))) (HCI.out.ext (by repeat first | exact yx0 _ | assumption | refine yxa ?_ _ | refine yxd ?_ | refine yxn ?_ _ | refine yxs ?_ (by simp <;> omega) _ | refine yxt ?_ (by assumption)))) ?_; rintro e9 w1 ⟨rfl, hb⟩; clear HS1 HS2 HCC; have hq := yxx HX.out (by repeat first | exact yx0 _ | assumption | refine yxa ?_ _ | refine yxd ?_ | refine yxn ?_ _ | refine yxs ?_ (by simp <;> omega) _ | refine yxt ?_ (by assumption)) hb; have HB9 := Lib.hid (HB.out.ext hq); have HS9 := Lib.hid (HS.out.ext hq); have HX9 := Lib.hid (HX.out.trans hq); clear k0 k1 k2 kl m0 m1 ml HB HS HX; have HB := HB9; have HS := HS9; have HX := HX9; clear HB9 HS9 HX9; obtain ⟨k0, k1, k2, kl⟩ := HB.out.c3; obtain ⟨m0, m1, _, _, ml⟩ := HS.out.c2; (try (have q9 := Lib.hid (HCF.out.ext hq); clear HCF; have HCF := q9; clear q9)); (try (have q9 := Lib.hid (HCS.out.ext hq); clear HCS; have HCS := q9; clear q9)); (try (have q9 := Lib.hid (HCI.out.ext hq); clear HCI; have HCI := q9; clear q9)); (try (have q9 := Lib.hid (HPT.out.ext hq); clear HPT; have HPT := q9; clear q9)); (try (have q9 := Lib.hid (HLI.out.ext hq); clear HLI; have HLI := q9; clear q9)); (try (have q9 := Lib.hid (HXI.out.ext hq); clear HXI; have HXI := q9; clear q9)); clear hq; clear HCF HCS HCI hb))
    go_wp2
    have HB1 := HB; have HS1 := HS; have HX1 := HX
    clear k0 k1 k2 kl m0 m1 ml HB HS HX
    go_loopw [9] (fun j wr => ∃ k : Nat, k ≤ set.length ∧ j = .int .i64 (k : Int) ∧ Hid (Blk wr w.heap.size 24 #[.string name, .int .i64 body, .slice A ss.length c]) ∧ Hid (Blk wr (w.heap.size + 1) 45 #[.slice B cs.length d, .slice D ns.length e]) ∧ Hid (Ext w wr)) (fun j _ => set.length - (intOf j).toNat)
    case atStart => exact ⟨0, Nat.zero_le _, rfl, HB1, HS1, HX1⟩
    case round =>
      obtain ⟨k, hk, rfl, HB, HS, HX⟩ := hrel
      clear HB1 HS1 HX1
      obtain ⟨k0, k1, k2, kl⟩ := HB.out.c3; obtain ⟨m0, m1, _, _, ml⟩ := HS.out.c2
      by_cases hlt : k < set.length
      case pos =>
        have i3 : (k : Int) < (set.length : Int) := by omega
        obtain ⟨b, off, hX, hbw, _⟩ := HRX.out.2.2 (by omega)
        subst hX
        obtain ⟨j, hj⟩ : ∃ j, j = k + 1 := ⟨_, rfl⟩
        have htk := Cut.RI.take HRX.out hbw k (by omega)
        have hdr : RI w (if cx = j then some ⟨b, off, none⟩ else some ⟨b, off + j, none⟩) (set.length - j) (set.drop j) := by
          by_cases h : cx = j
          · exact ⟨List.length_drop, by omega, fun h1 => absurd h1 (by omega)⟩
          · rw [if_neg h]; exact Cut.RI.drop HRX.out hbw j (by omega)
        have hl1 : (set.take k).length = k := by rw [List.length_take]; omega
        have hl2 : (set.drop j).length = set.length - j := List.length_drop
        have hw1 : IntKind.i64.wrap ((k : Int) + 1) = (j : Int) := by rw [IntWalk.i64_in _ (by omega)]; omega
        have b1 : (0 : Int) ≤ (k : Int) := by omega
        have b2 : (k : Int) ≤ (cx : Int) := by omega
        have b3 : (0 : Int) ≤ (j : Int) := by omega
        have b4 : (j : Int) ≤ (set.length : Int) := by omega
        have b5 : (set.length : Int) ≤ (cx : Int) := by omega
        have CSP := Lib.hid (fun FA fc t X cx W h1 h2 h3 h4 h5 => CSQ.out k hlt FA fc t X cx W h1 h2 h3 h4 h5)
        have HSM : Hid ((set.take k).length + (set.drop j).length ≤ 1000000) := Lib.hid (by omega)
        rw [← hj] at CSP
        have HJ := Lib.hid hj
        clear hj CSQ CMS CXC
        generalize set.take k = tk at *
        generalize set.drop j = dr at *
        rw [← hl1] at htk
        obtain ⟨PA, hPA⟩ : ∃ PA, PA = (if cx = j then some ⟨b, off, none⟩ else some ⟨b, off + j, none⟩ : Option Addr) := ⟨_, rfl⟩
        rw [← hPA] at hdr
        by_cases hcj : cx = j
        case pos =>
          rw [if_pos hcj] at hPA
          subst hcj hPA
          rw [show set.length - cx = 0 by omega] at hdr
          have HTK := Lib.hid htk; have HDR := Lib.hid hdr
          have CTK : Hid (∀ W, RI W (some ⟨b, off, none⟩) tk.length tk → Calls Tryz.prog 14 #[.slice (some ⟨b, off, none⟩) k cx] W (RetS tk W)) := Lib.hid fun W h => by
            have := copyInts_any (some ⟨b, off, none⟩) cx tk W h (by omega)
            rwa [hl1] at this
          clear htk hdr hl1 hl2
          obtain ⟨l9, hl9⟩ : ∃ l, l = tk ++ dr := ⟨_, rfl⟩
          rw [← hl9] at CSP
          have HLE := Lib.hid hl9
          clear hl9
          have HPTK := HTK
          go_upto_region 11 with fail
          go_region_held3 (fun _ => True) (trivial) (first | (go_at_call 14; refine Calls.mono (CTK.out _ (HTK.out.ext (HX.out.trans (by repeat first | exact yx0 _ | assumption | refine yxa ?_ _ | refine yxd ?_ | refine yxn ?_ _ | refine yxs ?_ (by simp <;> omega) _ | refine yxt ?_ (by assumption))))) ?_; rintro e9 w2 ⟨IA, ic, rfl, hsl, hb⟩; have HX2 := Lib.hid (Ext.trans (a := wr) (by repeat first | exact yx0 _ | assumption | refine yxa ?_ _ | refine yxd ?_ | refine yxn ?_ _ | refine yxs ?_ (by simp <;> omega) _ | refine yxt ?_ (by assumption)) hb); have HO1 := Lib.hid (SL.mono hsl (Ext.size (a := wr) (by repeat first | exact yx0 _ | assumption | refine yxa ?_ _ | refine yxd ?_ | refine yxn ?_ _ | refine yxs ?_ (by simp <;> omega) _ | refine yxt ?_ (by assumption)))).own; clear hsl hb) | (refine Cut.step_appendI rfl (.tmp 56) (.tmp 60) rfl wr.heap.size _ tk rfl (HO1.out.ext (by repeat first | exact yx0 _ | assumption | refine yxa ?_ _ | refine yxd ?_ | refine yxn ?_ _ | refine yxs ?_ (by simp <;> omega) _ | refine yxt ?_ (by assumption))) _ _ _ dr rfl (HDR.out.ext (HX.out.trans (HX2.out.trans (by repeat first | exact yx0 _ | assumption | refine yxa ?_ _ | refine yxd ?_ | refine yxn ?_ _ | refine yxs ?_ (by simp <;> omega) _ | refine yxt ?_ (by assumption))))) HSM.out (Ext.size (HX2.out.trans (by repeat first | exact yx0 _ | assumption | refine yxa ?_ _ | refine yxd ?_ | refine yxn ?_ _ | refine yxs ?_ (by simp <;> omega) _ | refine yxt ?_ (by assumption)))) ?_; intro v3 W3 ho3 hg3; have HX3 := Lib.hid (show Ext wr W3 from Ext.grown (HX2.out.trans (by repeat first | exact yx0 _ | assumption | refine yxa ?_ _ | refine yxd ?_ | refine yxn ?_ _ | refine yxs ?_ (by simp <;> omega) _ | refine yxt ?_ (by assumption))) hg3 (fun q hq => HO1.out.base_le q hq)); rw [← HLE.out] at ho3; obtain ⟨PA9, pc9, hv9, _, hr9⟩ := ho3.form (by have := HSM.out; rw [HLE.out, List.length_append]; omega); subst hv9; have HPT := Lib.hid hr9; clear ho3 hg3 hr9))
          have HB3 := Lib.hid (HB.out.ext HX3.out); have HS3 := Lib.hid (HS.out.ext HX3.out); have HX4 := Lib.hid (HX.out.trans HX3.out)
          clear k0 k1 k2 kl m0 m1 ml HB HS HX
          have HB := HB3; have HS := HS3; have HX := HX4
          clear HB3 HS3 HX4 HX3 HX2 HO1
          obtain ⟨k0, k1, k2, kl⟩ := HB.out.c3; obtain ⟨m0, m1, _, _, ml⟩ := HS.out.c2
          go_upto_region 12 with fail
          go_region_held3 (fun W => (W.cell? ⟨w.heap.size, 0, none⟩ = some (.string name) ∧ W.cell? ⟨w.heap.size, 1, none⟩ = some (.int .i64 body) ∧ W.cell? ⟨w.heap.size, 2, none⟩ = some (.slice A ss.length c)) ∧ (W.cell? ⟨w.heap.size + 1, 0, none⟩ = some (.slice B cs.length d) ∧ W.cell? ⟨w.heap.size + 1, 1, none⟩ = some (.slice D ns.length e)) ∧ w.heap.size + 1 < W.heap.size) (first | exact ⟨⟨k0, k1, k2⟩, ⟨m0, m1⟩, ml⟩ | go_keep) (first | (go_at_call 12; refine Calls.mono (CPF.out _ (HF.out.ext (HX.out.trans (by repeat first | exact yx0 _ | assumption | refine yxa ?_ _ | refine yxd ?_ | refine yxn ?_ _ | refine yxs ?_ (by simp <;> omega) _ | refine yxt ?_ (by assumption))))) ?_; rintro e9 w1 ⟨FA, fc, rfl, hfa, hb⟩; have hq := yxx HX.out (by repeat first | exact yx0 _ | assumption | refine yxa ?_ _ | refine yxd ?_ | refine yxn ?_ _ | refine yxs ?_ (by simp <;> omega) _ | refine yxt ?_ (by assumption)) hb; have HB9 := Lib.hid (HB.out.ext hq); have HS9 := Lib.hid (HS.out.ext hq); have HX9 := Lib.hid (HX.out.trans hq); clear k0 k1 k2 kl m0 m1 ml HB HS HX; have HB := HB9; have HS := HS9; have HX := HX9; clear HB9 HS9 HX9; obtain ⟨k0, k1, k2, kl⟩ := HB.out.c3; obtain ⟨m0, m1, _, _, ml⟩ := HS.out.c2; (try (have q9 := Lib.hid (HCF.out.ext hq); clear HCF; have HCF := q9; clear q9)); (try (have q9 := Lib.hid (HCS.out.ext hq); clear HCS; have HCS := q9; clear q9)); (try (have q9 := Lib.hid (HCI.out.ext hq); clear HCI; have HCI := q9; clear q9)); (try (have q9 := Lib.hid (HPT.out.ext hq); clear HPT; have HPT := q9; clear q9)); (try (have q9 := Lib.hid (HLI.out.ext hq); clear HLI; have HLI := q9; clear q9)); (try (have q9 := Lib.hid (HXI.out.ext hq); clear HXI; have HXI := q9; clear q9)); clear hq; have HCF := Lib.hid hfa; clear hfa hb) | (go_at_call 20; refine Calls.mono (CPS.out _ (HSR.out.ext (HX.out.trans (by repeat first | exact yx0 _ | assumption | refine yxa ?_ _ | refine yxd ?_ | refine yxn ?_ _ | refine yxs ?_ (by simp <;> omega) _ | refine yxt ?_ (by assumption))))) ?_; rintro e9 w1 ⟨st, rfl, hst, hs1, hs2, hb⟩; have hq := yxx HX.out (by repeat first | exact yx0 _ | assumption | refine yxa ?_ _ | refine yxd ?_ | refine yxn ?_ _ | refine yxs ?_ (by simp <;> omega) _ | refine yxt ?_ (by assumption)) hb; have HB9 := Lib.hid (HB.out.ext hq); have HS9 := Lib.hid (HS.out.ext hq); have HX9 := Lib.hid (HX.out.trans hq); clear k0 k1 k2 kl m0 m1 ml HB HS HX; have HB := HB9; have HS := HS9; have HX := HX9; clear HB9 HS9 HX9; obtain ⟨k0, k1, k2, kl⟩ := HB.out.c3; obtain ⟨m0, m1, _, _, ml⟩ := HS.out.c2; (try (have q9 := Lib.hid (HCF.out.ext hq); clear HCF; have HCF := q9; clear q9)); (try (have q9 := Lib.hid (HCS.out.ext hq); clear HCS; have HCS := q9; clear q9)); (try (have q9 := Lib.hid (HCI.out.ext hq); clear HCI; have HCI := q9; clear q9)); (try (have q9 := Lib.hid (HPT.out.ext hq); clear HPT; have HPT := q9; clear q9)); (try (have q9 := Lib.hid (HLI.out.ext hq); clear HLI; have HLI := q9; clear q9)); (try (have q9 := Lib.hid (HXI.out.ext hq); clear HXI; have HXI := q9; clear q9)); clear hq; have HCS := Lib.hid hst; have HS1 := Lib.hid hs1; have HS2 := Lib.hid hs2; clear hst hs1 hs2 hb) | (go_at_call 27; refine Calls.mono (CSP.out _ _ _ _ _ _ HS1.out HS2.out (HCF.out.ext (by repeat first | exact yx0 _ | assumption | refine yxa ?_ _ | refine yxd ?_ | refine yxn ?_ _ | refine yxs ?_ (by simp <;> omega) _ | refine yxt ?_ (by assumption))) (HCS.out.ext (by repeat first | exact yx0 _ | assumption | refine yxa ?_ _ | refine yxd ?_ | refine yxn ?_ _ | refine yxs ?_ (by simp <;> omega) _ | refine yxt ?_ (by assumption))) (HPT.out.ext (by repeat first | exact yx0 _ | assumption | refine yxa ?_ _ | refine yxd ?_ | refine yxn ?_ _ | refine yxs ?_ (by simp <;> omega) _ | refine yxt ?_ (by assumption)))) ?_; rintro e9 w1 ⟨rfl, hb⟩; clear HS1 HS2; have hq := yxx HX.out (by repeat first | exact yx0 _ | assumption | refine yxa ?_ _ | refine yxd ?_ | refine yxn ?_ _ | refine yxs ?_ (by simp <;> omega) _ | refine yxt ?_ (by assumption)) hb; have HB9 := Lib.hid (HB.out.ext hq); have HS9 := Lib.hid (HS.out.ext hq); have HX9 := Lib.hid (HX.out.trans hq); clear k0 k1 k2 kl m0 m1 ml HB HS HX; have HB := HB9; have HS := HS9; have HX := HX9; clear HB9 HS9 HX9; obtain ⟨k0, k1, k2, kl⟩ := HB.out.c3; obtain ⟨m0, m1, _, _, ml⟩ := HS.out.c2; (try (have q9 := Lib.hid (HCF.out.ext hq); clear HCF; have HCF := q9; clear q9)); (try (have q9 := Lib.hid (HCS.out.ext hq); clear HCS; have HCS := q9; clear q9)); (try (have q9 := Lib.hid (HCI.out.ext hq); clear HCI; have HCI := q9; clear q9)); (try (have q9 := Lib.hid (HPT.out.ext hq); clear HPT; have HPT := q9; clear q9)); (try (have q9 := Lib.hid (HLI.out.ext hq); clear HLI; have HLI := q9; clear q9)); (try (have q9 := Lib.hid (HXI.out.ext hq); clear HXI; have HXI := q9; clear q9)); clear hq; clear HCF HCS hb))
          go_wp2
          go_roundw
          case rel => exact ⟨k + 1, by omega, by have hj9 := HJ.out; first | go_num | (congr 1; omega), HB, HS, HX⟩
          case measure => have hj9 := HJ.out; simp [intOf] <;> omega
        case neg =>
          rw [if_neg hcj] at hPA
          subst hPA
          have HTK := Lib.hid htk; have HDR := Lib.hid hdr
          have CTK : Hid (∀ W, RI W (some ⟨b, off, none⟩) tk.length tk → Calls Tryz.prog 14 #[.slice (some ⟨b, off, none⟩) k cx] W (RetS tk W)) := Lib.hid fun W h => by
            have := copyInts_any (some ⟨b, off, none⟩) cx tk W h (by omega)
            rwa [hl1] at this
          clear htk hdr hl1 hl2
          obtain ⟨l9, hl9⟩ : ∃ l, l = tk ++ dr := ⟨_, rfl⟩
          rw [← hl9] at CSP
          have HLE := Lib.hid hl9
          clear hl9
          have HPTK := HTK
          go_upto_region 11 with fail
          go_region_held3 (fun _ => True) (trivial) (first | (go_at_call 14; refine Calls.mono (CTK.out _ (HTK.out.ext (HX.out.trans (by repeat first | exact yx0 _ | assumption | refine yxa ?_ _ | refine yxd ?_ | refine yxn ?_ _ | refine yxs ?_ (by simp <;> omega) _ | refine yxt ?_ (by assumption))))) ?_; rintro e9 w2 ⟨IA, ic, rfl, hsl, hb⟩; have HX2 := Lib.hid (Ext.trans (a := wr) (by repeat first | exact yx0 _ | assumption | refine yxa ?_ _ | refine yxd ?_ | refine yxn ?_ _ | refine yxs ?_ (by simp <;> omega) _ | refine yxt ?_ (by assumption)) hb); have HO1 := Lib.hid (SL.mono hsl (Ext.size (a := wr) (by repeat first | exact yx0 _ | assumption | refine yxa ?_ _ | refine yxd ?_ | refine yxn ?_ _ | refine yxs ?_ (by simp <;> omega) _ | refine yxt ?_ (by assumption)))).own; clear hsl hb) | (refine Cut.step_appendI rfl (.tmp 56) (.tmp 60) rfl wr.heap.size _ tk rfl (HO1.out.ext (by repeat first | exact yx0 _ | assumption | refine yxa ?_ _ | refine yxd ?_ | refine yxn ?_ _ | refine yxs ?_ (by simp <;> omega) _ | refine yxt ?_ (by assumption))) _ _ _ dr rfl (HDR.out.ext (HX.out.trans (HX2.out.trans (by repeat first | exact yx0 _ | assumption | refine yxa ?_ _ | refine yxd ?_ | refine yxn ?_ _ | refine yxs ?_ (by simp <;> omega) _ | refine yxt ?_ (by assumption))))) HSM.out (Ext.size (HX2.out.trans (by repeat first | exact yx0 _ | assumption | refine yxa ?_ _ | refine yxd ?_ | refine yxn ?_ _ | refine yxs ?_ (by simp <;> omega) _ | refine yxt ?_ (by assumption)))) ?_; intro v3 W3 ho3 hg3; have HX3 := Lib.hid (show Ext wr W3 from Ext.grown (HX2.out.trans (by repeat first | exact yx0 _ | assumption | refine yxa ?_ _ | refine yxd ?_ | refine yxn ?_ _ | refine yxs ?_ (by simp <;> omega) _ | refine yxt ?_ (by assumption))) hg3 (fun q hq => HO1.out.base_le q hq)); rw [← HLE.out] at ho3; obtain ⟨PA9, pc9, hv9, _, hr9⟩ := ho3.form (by have := HSM.out; rw [HLE.out, List.length_append]; omega); subst hv9; have HPT := Lib.hid hr9; clear ho3 hg3 hr9))
          have HB3 := Lib.hid (HB.out.ext HX3.out); have HS3 := Lib.hid (HS.out.ext HX3.out); have HX4 := Lib.hid (HX.out.trans HX3.out)
          clear k0 k1 k2 kl m0 m1 ml HB HS HX
          have HB := HB3; have HS := HS3; have HX := HX4
          clear HB3 HS3 HX4 HX3 HX2 HO1
          obtain ⟨k0, k1, k2, kl⟩ := HB.out.c3; obtain ⟨m0, m1, _, _, ml⟩ := HS.out.c2
          go_upto_region 12 with fail
          go_region_held3 (fun W => (W.cell? ⟨w.heap.size, 0, none⟩ = some (.string name) ∧ W.cell? ⟨w.heap.size, 1, none⟩ = some (.int .i64 body) ∧ W.cell? ⟨w.heap.size, 2, none⟩ = some (.slice A ss.length c)) ∧ (W.cell? ⟨w.heap.size + 1, 0, none⟩ = some (.slice B cs.length d) ∧ W.cell? ⟨w.heap.size + 1, 1, none⟩ = some (.slice D ns.length e)) ∧ w.heap.size + 1 < W.heap.size) (first | exact ⟨⟨k0, k1, k2⟩, ⟨m0, m1⟩, ml⟩ | go_keep) (first | (go_at_call 12; refine Calls.mono (CPF.out _ (HF.out.ext (HX.out.trans (by repeat first | exact yx0 _ | assumption | refine yxa ?_ _ | refine yxd ?_ | refine yxn ?_ _ | refine yxs ?_ (by simp <;> omega) _ | refine yxt ?_ (by assumption))))) ?_; rintro e9 w1 ⟨FA, fc, rfl, hfa, hb⟩; have hq := yxx HX.out (by repeat first | exact yx0 _ | assumption | refine yxa ?_ _ | refine yxd ?_ | refine yxn ?_ _ | refine yxs ?_ (by simp <;> omega) _ | refine yxt ?_ (by assumption)) hb; have HB9 := Lib.hid (HB.out.ext hq); have HS9 := Lib.hid (HS.out.ext hq); have HX9 := Lib.hid (HX.out.trans hq); clear k0 k1 k2 kl m0 m1 ml HB HS HX; have HB := HB9; have HS := HS9; have HX := HX9; clear HB9 HS9 HX9; obtain ⟨k0, k1, k2, kl⟩ := HB.out.c3; obtain ⟨m0, m1, _, _, ml⟩ := HS.out.c2; (try (have q9 := Lib.hid (HCF.out.ext hq); clear HCF; have HCF := q9; clear q9)); (try (have q9 := Lib.hid (HCS.out.ext hq); clear HCS; have HCS := q9; clear q9)); (try (have q9 := Lib.hid (HCI.out.ext hq); clear HCI; have HCI := q9; clear q9)); (try (have q9 := Lib.hid (HPT.out.ext hq); clear HPT; have HPT := q9; clear q9)); (try (have q9 := Lib.hid (HLI.out.ext hq); clear HLI; have HLI := q9; clear q9)); (try (have q9 := Lib.hid (HXI.out.ext hq); clear HXI; have HXI := q9; clear q9)); clear hq; have HCF := Lib.hid hfa; clear hfa hb) | (go_at_call 20; refine Calls.mono (CPS.out _ (HSR.out.ext (HX.out.trans (by repeat first | exact yx0 _ | assumption | refine yxa ?_ _ | refine yxd ?_ | refine yxn ?_ _ | refine yxs ?_ (by simp <;> omega) _ | refine yxt ?_ (by assumption))))) ?_; rintro e9 w1 ⟨st, rfl, hst, hs1, hs2, hb⟩; have hq := yxx HX.out (by repeat first | exact yx0 _ | assumption | refine yxa ?_ _ | refine yxd ?_ | refine yxn ?_ _ | refine yxs ?_ (by simp <;> omega) _ | refine yxt ?_ (by assumption)) hb; have HB9 := Lib.hid (HB.out.ext hq); have HS9 := Lib.hid (HS.out.ext hq); have HX9 := Lib.hid (HX.out.trans hq); clear k0 k1 k2 kl m0 m1 ml HB HS HX; have HB := HB9; have HS := HS9; have HX := HX9; clear HB9 HS9 HX9; obtain ⟨k0, k1, k2, kl⟩ := HB.out.c3; obtain ⟨m0, m1, _, _, ml⟩ := HS.out.c2; (try (have q9 := Lib.hid (HCF.out.ext hq); clear HCF; have HCF := q9; clear q9)); (try (have q9 := Lib.hid (HCS.out.ext hq); clear HCS; have HCS := q9; clear q9)); (try (have q9 := Lib.hid (HCI.out.ext hq); clear HCI; have HCI := q9; clear q9)); (try (have q9 := Lib.hid (HPT.out.ext hq); clear HPT; have HPT := q9; clear q9)); (try (have q9 := Lib.hid (HLI.out.ext hq); clear HLI; have HLI := q9; clear q9)); (try (have q9 := Lib.hid (HXI.out.ext hq); clear HXI; have HXI := q9; clear q9)); clear hq; have HCS := Lib.hid hst; have HS1 := Lib.hid hs1; have HS2 := Lib.hid hs2; clear hst hs1 hs2 hb) | (go_at_call 27; refine Calls.mono (CSP.out _ _ _ _ _ _ HS1.out HS2.out (HCF.out.ext (by repeat first | exact yx0 _ | assumption | refine yxa ?_ _ | refine yxd ?_ | refine yxn ?_ _ | refine yxs ?_ (by simp <;> omega) _ | refine yxt ?_ (by assumption))) (HCS.out.ext (by repeat first | exact yx0 _ | assumption | refine yxa ?_ _ | refine yxd ?_ | refine yxn ?_ _ | refine yxs ?_ (by simp <;> omega) _ | refine yxt ?_ (by assumption))) (HPT.out.ext (by repeat first | exact yx0 _ | assumption | refine yxa ?_ _ | refine yxd ?_ | refine yxn ?_ _ | refine yxs ?_ (by simp <;> omega) _ | refine yxt ?_ (by assumption)))) ?_; rintro e9 w1 ⟨rfl, hb⟩; clear HS1 HS2; have hq := yxx HX.out (by repeat first | exact yx0 _ | assumption | refine yxa ?_ _ | refine yxd ?_ | refine yxn ?_ _ | refine yxs ?_ (by simp <;> omega) _ | refine yxt ?_ (by assumption)) hb; have HB9 := Lib.hid (HB.out.ext hq); have HS9 := Lib.hid (HS.out.ext hq); have HX9 := Lib.hid (HX.out.trans hq); clear k0 k1 k2 kl m0 m1 ml HB HS HX; have HB := HB9; have HS := HS9; have HX := HX9; clear HB9 HS9 HX9; obtain ⟨k0, k1, k2, kl⟩ := HB.out.c3; obtain ⟨m0, m1, _, _, ml⟩ := HS.out.c2; (try (have q9 := Lib.hid (HCF.out.ext hq); clear HCF; have HCF := q9; clear q9)); (try (have q9 := Lib.hid (HCS.out.ext hq); clear HCS; have HCS := q9; clear q9)); (try (have q9 := Lib.hid (HCI.out.ext hq); clear HCI; have HCI := q9; clear q9)); (try (have q9 := Lib.hid (HPT.out.ext hq); clear HPT; have HPT := q9; clear q9)); (try (have q9 := Lib.hid (HLI.out.ext hq); clear HLI; have HLI := q9; clear q9)); (try (have q9 := Lib.hid (HXI.out.ext hq); clear HXI; have HXI := q9; clear q9)); clear hq; clear HCF HCS hb))
          go_wp2
          go_roundw
          case rel => exact ⟨k + 1, by omega, by have hj9 := HJ.out; first | go_num | (congr 1; omega), HB, HS, HX⟩
          case measure => have hj9 := HJ.out; simp [intOf] <;> omega
      case neg =>
        obtain rfl : k = set.length := by omega
        have i3 : ¬ (set.length : Int) < (set.length : Int) := by omega
        clear hlt
        go_upto_region 15 with fail
        go_region_held3 (fun W => (W.cell? ⟨w.heap.size, 0, none⟩ = some (.string name) ∧ W.cell? ⟨w.heap.size, 1, none⟩ = some (.int .i64 body) ∧ W.cell? ⟨w.heap.size, 2, none⟩ = some (.slice A ss.length c)) ∧ (W.cell? ⟨w.heap.size + 1, 0, none⟩ = some (.slice B cs.length d) ∧ W.cell? ⟨w.heap.size + 1, 1, none⟩ = some (.slice D ns.length e)) ∧ w.heap.size + 1 < W.heap.size) (first | exact ⟨⟨k0, k1, k2⟩, ⟨m0, m1⟩, ml⟩ | go_keep) (first | (go_at_call 12; refine Calls.mono (CPF.out _ (HF.out.ext (HX.out.trans (by repeat first | exact yx0 _ | assumption | refine yxa ?_ _ | refine yxd ?_ | refine yxn ?_ _ | refine yxs ?_ (by simp <;> omega) _ | refine yxt ?_ (by assumption))))) ?_; rintro e9 w1 ⟨FA, fc, rfl, hfa, hb⟩; have hq := yxx HX.out (by repeat first | exact yx0 _ | assumption | refine yxa ?_ _ | refine yxd ?_ | refine yxn ?_ _ | refine yxs ?_ (by simp <;> omega) _ | refine yxt ?_ (by assumption)) hb; have HB9 := Lib.hid (HB.out.ext hq); have HS9 := Lib.hid (HS.out.ext hq); have HX9 := Lib.hid (HX.out.trans hq); clear k0 k1 k2 kl m0 m1 ml HB HS HX; have HB := HB9; have HS := HS9; have HX := HX9; clear HB9 HS9 HX9; obtain ⟨k0, k1, k2, kl⟩ := HB.out.c3; obtain ⟨m0, m1, _, _, ml⟩ := HS.out.c2; (try (have q9 := Lib.hid (HCF.out.ext hq); clear HCF; have HCF := q9; clear q9)); (try (have q9 := Lib.hid (HCS.out.ext hq); clear HCS; have HCS := q9; clear q9)); (try (have q9 := Lib.hid (HCI.out.ext hq); clear HCI; have HCI := q9; clear q9)); (try (have q9 := Lib.hid (HPT.out.ext hq); clear HPT; have HPT := q9; clear q9)); (try (have q9 := Lib.hid (HLI.out.ext hq); clear HLI; have HLI := q9; clear q9)); (try (have q9 := Lib.hid (HXI.out.ext hq); clear HXI; have HXI := q9; clear q9)); clear hq; have HCF := Lib.hid hfa; clear hfa hb) | (go_at_call 20; refine Calls.mono (CPS.out _ (HSR.out.ext (HX.out.trans (by repeat first | exact yx0 _ | assumption | refine yxa ?_ _ | refine yxd ?_ | refine yxn ?_ _ | refine yxs ?_ (by simp <;> omega) _ | refine yxt ?_ (by assumption))))) ?_; rintro e9 w1 ⟨st, rfl, hst, hs1, hs2, hb⟩; have hq := yxx HX.out (by repeat first | exact yx0 _ | assumption | refine yxa ?_ _ | refine yxd ?_ | refine yxn ?_ _ | refine yxs ?_ (by simp <;> omega) _ | refine yxt ?_ (by assumption)) hb; have HB9 := Lib.hid (HB.out.ext hq); have HS9 := Lib.hid (HS.out.ext hq); have HX9 := Lib.hid (HX.out.trans hq); clear k0 k1 k2 kl m0 m1 ml HB HS HX; have HB := HB9; have HS := HS9; have HX := HX9; clear HB9 HS9 HX9; obtain ⟨k0, k1, k2, kl⟩ := HB.out.c3; obtain ⟨m0, m1, _, _, ml⟩ := HS.out.c2; (try (have q9 := Lib.hid (HCF.out.ext hq); clear HCF; have HCF := q9; clear q9)); (try (have q9 := Lib.hid (HCS.out.ext hq); clear HCS; have HCS := q9; clear q9)); (try (have q9 := Lib.hid (HCI.out.ext hq); clear HCI; have HCI := q9; clear q9)); (try (have q9 := Lib.hid (HPT.out.ext hq); clear HPT; have HPT := q9; clear q9)); (try (have q9 := Lib.hid (HLI.out.ext hq); clear HLI; have HLI := q9; clear q9)); (try (have q9 := Lib.hid (HXI.out.ext hq); clear HXI; have HXI := q9; clear q9)); clear hq; have HCS := Lib.hid hst; have HS1 := Lib.hid hs1; have HS2 := Lib.hid hs2; clear hst hs1 hs2 hb) | (go_at_call 19; refine Calls.mono (CMS.out _ _ _ _ HS1.out HS2.out (HCF.out.ext (by repeat first | exact yx0 _ | assumption | refine yxa ?_ _ | refine yxd ?_ | refine yxn ?_ _ | refine yxs ?_ (by simp <;> omega) _ | refine yxt ?_ (by assumption))) (HCS.out.ext (by repeat first | exact yx0 _ | assumption | refine yxa ?_ _ | refine yxd ?_ | refine yxn ?_ _ | refine yxs ?_ (by simp <;> omega) _ | refine yxt ?_ (by assumption)))) ?_; rintro e9 w1 ⟨LA, lc, rfl, hri, hb⟩; clear HS1 HS2; have hq := yxx HX.out (by repeat first | exact yx0 _ | assumption | refine yxa ?_ _ | refine yxd ?_ | refine yxn ?_ _ | refine yxs ?_ (by simp <;> omega) _ | refine yxt ?_ (by assumption)) hb; have HB9 := Lib.hid (HB.out.ext hq); have HS9 := Lib.hid (HS.out.ext hq); have HX9 := Lib.hid (HX.out.trans hq); clear k0 k1 k2 kl m0 m1 ml HB HS HX; have HB := HB9; have HS := HS9; have HX := HX9; clear HB9 HS9 HX9; obtain ⟨k0, k1, k2, kl⟩ := HB.out.c3; obtain ⟨m0, m1, _, _, ml⟩ := HS.out.c2; (try (have q9 := Lib.hid (HCF.out.ext hq); clear HCF; have HCF := q9; clear q9)); (try (have q9 := Lib.hid (HCS.out.ext hq); clear HCS; have HCS := q9; clear q9)); (try (have q9 := Lib.hid (HCI.out.ext hq); clear HCI; have HCI := q9; clear q9)); (try (have q9 := Lib.hid (HPT.out.ext hq); clear HPT; have HPT := q9; clear q9)); (try (have q9 := Lib.hid (HLI.out.ext hq); clear HLI; have HLI := q9; clear q9)); (try (have q9 := Lib.hid (HXI.out.ext hq); clear HXI; have HXI := q9; clear q9)); clear hq; have HLI := Lib.hid hri; clear HCF HCS hri hb))
        go_upto_region 16 with fail
        go_region_held3 (fun W => (W.cell? ⟨w.heap.size, 0, none⟩ = some (.string name) ∧ W.cell? ⟨w.heap.size, 1, none⟩ = some (.int .i64 body) ∧ W.cell? ⟨w.heap.size, 2, none⟩ = some (.slice A ss.length c)) ∧ (W.cell? ⟨w.heap.size + 1, 0, none⟩ = some (.slice B cs.length d) ∧ W.cell? ⟨w.heap.size + 1, 1, none⟩ = some (.slice D ns.length e)) ∧ w.heap.size + 1 < W.heap.size) (first | exact ⟨⟨k0, k1, k2⟩, ⟨m0, m1⟩, ml⟩ | go_keep) (first | (go_at_call 12; refine Calls.mono (CPF.out _ (HF.out.ext (HX.out.trans (by repeat first | exact yx0 _ | assumption | refine yxa ?_ _ | refine yxd ?_ | refine yxn ?_ _ | refine yxs ?_ (by simp <;> omega) _ | refine yxt ?_ (by assumption))))) ?_; rintro e9 w1 ⟨FA, fc, rfl, hfa, hb⟩; have hq := yxx HX.out (by repeat first | exact yx0 _ | assumption | refine yxa ?_ _ | refine yxd ?_ | refine yxn ?_ _ | refine yxs ?_ (by simp <;> omega) _ | refine yxt ?_ (by assumption)) hb; have HB9 := Lib.hid (HB.out.ext hq); have HS9 := Lib.hid (HS.out.ext hq); have HX9 := Lib.hid (HX.out.trans hq); clear k0 k1 k2 kl m0 m1 ml HB HS HX; have HB := HB9; have HS := HS9; have HX := HX9; clear HB9 HS9 HX9; obtain ⟨k0, k1, k2, kl⟩ := HB.out.c3; obtain ⟨m0, m1, _, _, ml⟩ := HS.out.c2; (try (have q9 := Lib.hid (HCF.out.ext hq); clear HCF; have HCF := q9; clear q9)); (try (have q9 := Lib.hid (HCS.out.ext hq); clear HCS; have HCS := q9; clear q9)); (try (have q9 := Lib.hid (HCI.out.ext hq); clear HCI; have HCI := q9; clear q9)); (try (have q9 := Lib.hid (HPT.out.ext hq); clear HPT; have HPT := q9; clear q9)); (try (have q9 := Lib.hid (HLI.out.ext hq); clear HLI; have HLI := q9; clear q9)); (try (have q9 := Lib.hid (HXI.out.ext hq); clear HXI; have HXI := q9; clear q9)); clear hq; have HCF := Lib.hid hfa; clear hfa hb) | (go_at_call 20; refine Calls.mono (CPS.out _ (HSR.out.ext (HX.out.trans (by repeat first | exact yx0 _ | assumption | refine yxa ?_ _ | refine yxd ?_ | refine yxn ?_ _ | refine yxs ?_ (by simp <;> omega) _ | refine yxt ?_ (by assumption))))) ?_; rintro e9 w1 ⟨st, rfl, hst, hs1, hs2, hb⟩; have hq := yxx HX.out (by repeat first | exact yx0 _ | assumption | refine yxa ?_ _ | refine yxd ?_ | refine yxn ?_ _ | refine yxs ?_ (by simp <;> omega) _ | refine yxt ?_ (by assumption)) hb; have HB9 := Lib.hid (HB.out.ext hq); have HS9 := Lib.hid (HS.out.ext hq); have HX9 := Lib.hid (HX.out.trans hq); clear k0 k1 k2 kl m0 m1 ml HB HS HX; have HB := HB9; have HS := HS9; have HX := HX9; clear HB9 HS9 HX9; obtain ⟨k0, k1, k2, kl⟩ := HB.out.c3; obtain ⟨m0, m1, _, _, ml⟩ := HS.out.c2; (try (have q9 := Lib.hid (HCF.out.ext hq); clear HCF; have HCF := q9; clear q9)); (try (have q9 := Lib.hid (HCS.out.ext hq); clear HCS; have HCS := q9; clear q9)); (try (have q9 := Lib.hid (HCI.out.ext hq); clear HCI; have HCI := q9; clear q9)); (try (have q9 := Lib.hid (HPT.out.ext hq); clear HPT; have HPT := q9; clear q9)); (try (have q9 := Lib.hid (HLI.out.ext hq); clear HLI; have HLI := q9; clear q9)); (try (have q9 := Lib.hid (HXI.out.ext hq); clear HXI; have HXI := q9; clear q9)); clear hq; have HCS := Lib.hid hst; have HS1 := Lib.hid hs1; have HS2 := Lib.hid hs2; clear hst hs1 hs2 hb) | (go_at_call 21; refine Calls.mono (CXC.out _ _ _ _ HS1.out HS2.out (HCF.out.ext (by repeat first | exact yx0 _ | assumption | refine yxa ?_ _ | refine yxd ?_ | refine yxn ?_ _ | refine yxs ?_ (by simp <;> omega) _ | refine yxt ?_ (by assumption))) (HCS.out.ext (by repeat first | exact yx0 _ | assumption | refine yxa ?_ _ | refine yxd ?_ | refine yxn ?_ _ | refine yxs ?_ (by simp <;> omega) _ | refine yxt ?_ (by assumption)))) ?_; rintro e9 w1 ⟨XA, xc, rfl, hri, hb⟩; clear HS1 HS2; have hq := yxx HX.out (by repeat first | exact yx0 _ | assumption | refine yxa ?_ _ | refine yxd ?_ | refine yxn ?_ _ | refine yxs ?_ (by simp <;> omega) _ | refine yxt ?_ (by assumption)) hb; have HB9 := Lib.hid (HB.out.ext hq); have HS9 := Lib.hid (HS.out.ext hq); have HX9 := Lib.hid (HX.out.trans hq); clear k0 k1 k2 kl m0 m1 ml HB HS HX; have HB := HB9; have HS := HS9; have HX := HX9; clear HB9 HS9 HX9; obtain ⟨k0, k1, k2, kl⟩ := HB.out.c3; obtain ⟨m0, m1, _, _, ml⟩ := HS.out.c2; (try (have q9 := Lib.hid (HCF.out.ext hq); clear HCF; have HCF := q9; clear q9)); (try (have q9 := Lib.hid (HCS.out.ext hq); clear HCS; have HCS := q9; clear q9)); (try (have q9 := Lib.hid (HCI.out.ext hq); clear HCI; have HCI := q9; clear q9)); (try (have q9 := Lib.hid (HPT.out.ext hq); clear HPT; have HPT := q9; clear q9)); (try (have q9 := Lib.hid (HLI.out.ext hq); clear HLI; have HLI := q9; clear q9)); (try (have q9 := Lib.hid (HXI.out.ext hq); clear HXI; have HXI := q9; clear q9)); clear hq; have HXI := Lib.hid hri; clear HCF HCS hri hb))
        skip
        have i8 : (0 : Int) < (l.length : Int) := by have := HLP.out; omega
        go_wp2
        have i7d : decide (mo.length < set.length) = false := decide_eq_false (by omega)
        have i8d : decide (0 < l.length) = true := decide_eq_true (by omega)
        have i1d : decide ((10 : Int) < (set.length : Int)) = false := decide_eq_false (by omega)
        simp only [i7d, i8d, i1d]
        clear i7d i8d i1d
        have HX1 := HX; have HXI1 := HXI
        clear k0 k1 k2 kl m0 m1 ml HB HS HX HXI HLI i7 i8 i1
        have HAS : Hid (∀ i, allTo set l (i + 1) = (allTo set l i && hasB set (l.getD i 0))) := Lib.hid fun _ => rfl
        have ha0 : allTo set l 0 = true := rfl
        have CHQ := Lib.hid (fun x W h => has_any X cx set x W h)
        generalize allTo set l = al at *
        go_loopw [19, 18] (fun j v wr => ∃ i : Nat, i ≤ l.length ∧ j = .int .i64 (i : Int) ∧ v = .bool (al i) ∧ Hid (RI wr XA l.length l) ∧ Hid (Ext w wr)) (fun j _ _ => l.length - (intOf j).toNat)
        case atStart => exact ⟨0, Nat.zero_le _, rfl, by rw [ha0], HXI1, HX1⟩
        case round =>
          obtain ⟨i, hi, rfl, rfl, HXI, HX⟩ := hrel
          clear HX1 HXI1
          by_cases hil : i < l.length
          case neg =>
            obtain rfl : i = l.length := by omega
            have i9 : ¬ (l.length : Int) < (l.length : Int) := by omega
            rw [HAF.out]
            go_wp2
            go_ret
            exact Ret.mk' (by first | rfl | simp) (HX.out.trans (by repeat first | exact yx0 _ | assumption | refine yxa ?_ _ | refine yxd ?_ | refine yxn ?_ _ | refine yxs ?_ (by simp <;> omega) _ | refine yxt ?_ (by assumption)))
          case pos =>
            have i9 : (i : Int) < (l.length : Int) := by omega
            obtain ⟨xb, xo, hXA, hxb, hxc⟩ := HXI.out.2.2 (by omega)
            subst hXA
            have xi := hxc i hil
            have hbl := HXI.out.big
            have has := HAS.out i
            have CHB := Lib.hid (fun W h => CHQ.out (l.getD i 0) W h)
            clear hxc CHQ
            generalize l.getD i 0 = y at *
            generalize hasB set y = hb0 at *
            have HAS2 := Lib.hid has
            clear has
            cases ha : al i with
            | false =>
              have hn : al (i + 1) = false := by rw [HAS2.out, ha]; rfl
              have HN := Lib.hid hn
              clear hn ha
              go_wp2
              go_roundw
              case rel => exact ⟨i + 1, by omega, by go_num, by rw [HN.out], HXI, HX⟩
              case measure => simp [intOf] <;> omega
            | true =>
              have hn : al (i + 1) = hb0 := by rw [HAS2.out, ha]; rfl
              have HN := Lib.hid hn
              clear hn ha
              cases hb0
              all_goals
                go_wp2_with (first | (go_at_call 28; refine Calls.mono (CHB.out _ (HRX.out.ext (HX.out.trans (by repeat first | exact yx0 _ | assumption | refine yxa ?_ _ | refine yxd ?_ | refine yxn ?_ _ | refine yxs ?_ (by simp <;> omega) _ | refine yxt ?_ (by assumption))))) ?_; rintro e9 w5 ⟨rfl, hb⟩; have HB5 := Lib.hid (Ext.trans (a := wr) (by repeat first | exact yx0 _ | assumption | refine yxa ?_ _ | refine yxd ?_ | refine yxn ?_ _ | refine yxs ?_ (by simp <;> omega) _ | refine yxt ?_ (by assumption)) hb); clear hb))
                go_roundw
                case rel => exact ⟨i + 1, by omega, by go_num, by rw [HN.out], Lib.hid (HXI.out.ext (HB5.out.trans (by repeat first | exact yx0 _ | assumption | refine yxa ?_ _ | refine yxd ?_ | refine yxn ?_ _ | refine yxs ?_ (by simp <;> omega) _ | refine yxt ?_ (by assumption)))), Lib.hid (HX.out.trans (HB5.out.trans (by repeat first | exact yx0 _ | assumption | refine yxa ?_ _ | refine yxd ?_ | refine yxn ?_ _ | refine yxs ?_ (by simp <;> omega) _ | refine yxt ?_ (by assumption))))⟩
                case measure => simp [intOf] <;> omega
end Go.Proofs.YtfkjhgcablakgaaGreatDoor.pagefewer
