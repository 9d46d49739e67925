/-
  Walk: the hyphens of a word by a ruler.
-/
import Derived.Test.YtccdnieoaejgdaaGreatDoorT2AS
set_option linter.unusedVariables false
set_option linter.unusedSimpArgs false
set_option linter.unusedSectionVars false
namespace Go.Proofs.YtccdnieoaejgdaaGreatDoor
open Go.RowKit Go.Lib

def hyRw (r : RU) (w : List UInt8) : List Int :=
  match excLook r (low w) with
  | some l => l
  | none => if smWord (strL (low w)) = true then oddTo (lvOf r w) (w.length + 1) else []
/-- The hyphens of a word. -/
def hyW (r : RU) (w : List UInt8) : List Int := (hyRw r w).filter (hyOk r w.length)
theorem ptTo_at {ls : List (List UInt8)} : ∀ {n : Nat} {x : List UInt8 × List Int}, ptTo ls n = some x → ∀ z ∈ x.2, 0 ≤ z ∧ z ≤ (x.1.length : Int)
  | 0, x, h => by cases h; simp
  | n + 1, x, h => by
    rw [ptTo] at h
    cases hp : ptTo ls n with
    | none => rw [hp] at h; cases h
    | some y =>
      obtain ⟨w, ps⟩ := y
      rw [hp] at h
      simp only at h
      split at h
      · cases h
      · cases h
        have ih := ptTo_at hp
        simp only at ih ⊢
        intro z hz
        rw [List.length_append]
        split at hz
        · have := ih z hz; omega
        · rcases List.mem_append.1 hz with h1 | h1
          · have := ih z h1; omega
          · rw [List.mem_singleton] at h1; omega
theorem mkLook_at {lt : Bool} {m : UInt8} {l : List ByteArray} {w : List UInt8} {zs : List Int} : ∀ {n : Nat}, mkLook lt m l n w = some zs → ∀ z ∈ zs, 0 ≤ z ∧ z ≤ (w.length : Int)
  | 0, h => by cases h
  | n + 1, h => by
    rw [mkLook] at h
    split at h
    · rename_i x hx
      split at h
      · rename_i hw
        cases h
        subst hw
        unfold mkOf at hx
        split at hx
        · rename_i y hy
          split at hx
          · cases hx
            rw [← ptTo_all] at hy
            exact ptTo_at hy
          · cases hx
        · cases hx
      · exact mkLook_at h
    · exact mkLook_at h
theorem oddTo_at {f : Nat → Int} : ∀ {n : Nat}, ∀ z ∈ oddTo f n, 0 ≤ z ∧ z < (n : Int)
  | 0, z, h => by cases h
  | n + 1, z, h => by
    rw [oddTo] at h
    split at h
    · rcases List.mem_append.1 h with h1 | h1
      · have := oddTo_at z h1; omega
      · rw [List.mem_singleton] at h1; omega
    · have := oddTo_at z h; omega
theorem oddTo_len {f : Nat → Int} : ∀ {n : Nat}, (oddTo f n).length ≤ n
  | 0 => by simp [oddTo]
  | n + 1 => by
    rw [oddTo]
    have := oddTo_len (f := f) (n := n)
    split <;> simp <;> omega
theorem lvList_at (r : RU) (w : List UInt8) {k : Nat} (hk : k ≤ w.length) : (lvList r w).getD k 0 = lvOf r w k := by
  unfold lvList lvK lvOf
  rw [List.getD_eq_getElem?_getD, List.getElem?_map, List.getElem?_range (by rw [low_len]; omega)]; rfl
theorem hyRw_at (r : RU) (w : List UInt8) : ∀ z ∈ hyRw r w, 0 ≤ z ∧ z ≤ (w.length : Int) := by
  unfold hyRw
  intro z hz
  split at hz
  · rename_i l h
    have := mkLook_at h z hz
    rwa [low_len] at this
  · split at hz
    · have := oddTo_at z hz; omega
    · cases hz
theorem ptTo_few {ls : List (List UInt8)} : ∀ {n : Nat} {x : List UInt8 × List Int}, ptTo ls n = some x → x.2.length ≤ x.1.length
  | 0, x, h => by cases h; simp
  | n + 1, x, h => by
    rw [ptTo] at h
    cases hp : ptTo ls n with
    | none => rw [hp] at h; cases h
    | some y =>
      obtain ⟨w, ps⟩ := y
      rw [hp] at h
      simp only at h
      split at h
      · cases h
      · rename_i hne
        cases h
        have ih := ptTo_few hp
        have hl : 0 < (ls.getD n []).length := List.length_pos_iff.2 hne
        simp only at ih ⊢
        rw [List.length_append]
        split
        · omega
        · rw [List.length_append]; simp only [List.length_cons, List.length_nil]; omega
theorem mkLook_len {lt : Bool} {m : UInt8} {l : List ByteArray} {w : List UInt8} {zs : List Int} : ∀ {n : Nat}, mkLook lt m l n w = some zs → zs.length ≤ w.length
  | 0, h => by cases h
  | n + 1, h => by
    rw [mkLook] at h
    split at h
    · rename_i x hx
      split at h
      · rename_i hw
        cases h
        subst hw
        unfold mkOf at hx
        split at hx
        · rename_i y hy
          split at hx
          · cases hx
            rw [← ptTo_all] at hy
            exact ptTo_few hy
          · cases hx
        · cases hx
      · exact mkLook_len h
    · exact mkLook_len h
theorem hyRw_len (r : RU) (w : List UInt8) : (hyRw r w).length ≤ w.length + 1 := by
  unfold hyRw
  split
  · rename_i l h
    have := mkLook_len h
    rw [low_len] at this; omega
  · split
    · exact oddTo_len
    · simp
theorem lvBy_nonneg (ps : List Pat) (w : List UInt8) (i : Nat) : ∀ k, 0 ≤ lvBy ps w k i
  | 0 => Int.le_refl 0
  | k + 1 => by rw [lvBy]; have := lvBy_nonneg ps w i k; omega
/-- What a look answers, in every world behind. -/
theorem KI.looks {w : World} {b n : Nat} {f : List UInt8 → Option (List Int)} (h : KI w b n f) (s : ByteArray) (hs : s.size ≤ maxLen) :
    ∃ A c, (∀ W, Ext w W → (Instr.lookup 134 (.map (some b)) (.string s) true).run Tryz.prog W = .ok (.tuple #[.slice A ((f s.data.toList).getD []).length c, .bool (f s.data.toList).isSome]) W) ∧
      SL w 0 A c ((f s.data.toList).getD []) ∧ (f s.data.toList = none → A = none ∧ c = 0) := by
  obtain ⟨F, hk, hf⟩ := h.ex
  have h3 := hf s.data.toList
  cases hfl : f s.data.toList with
  | none =>
    rw [hfl] at h3
    simp only at h3
    refine ⟨none, 0, fun W hW => ?_, SL.nil _ _, fun _ => ⟨rfl, rfl⟩⟩
    have h1 := (hk.ext hW).look s hs
    rw [h3] at h1
    exact h1
  | some zs =>
    rw [hfl] at h3
    obtain ⟨A, c, h4, h5⟩ := h3
    refine ⟨A, c, fun W hW => ?_, h5, fun e => by cases e⟩
    have h1 := (hk.ext hW).look s hs
    rw [h4] at h1
    exact h1
theorem filter_next {p : Int → Bool} {zs : List Int} {k : Nat} (hk : k < zs.length) : (zs.take (k + 1)).filter p = if p (zs.getD k 0) = true then (zs.take k).filter p ++ [zs.getD k 0] else (zs.take k).filter p := by
  rw [List.take_succ_eq_append_getElem hk, List.filter_append, List.getD_eq_getElem?_getD, List.getElem?_eq_getElem hk]
  simp only [Option.getD_some, List.filter_cons, List.filter_nil]
  split
  · rfl
  · rw [List.append_nil]
set_option maxRecDepth 100000 in
set_option maxHeartbeats 4000000 in
theorem hyphens_any (r : RU) (a : RuA) (PA : Option Addr) (rb pc me mb ne nb : Nat) (s : ByteArray) (w : World) (hr : RlR w rb r a PA pc me mb ne nb) (hs : s.size ≤ 100) :
    Calls Tryz.prog 63 #[.pointer (some ⟨rb, 0, none⟩), .string s] w (RetS (hyW r s.data.toList) w) := by
  have HR := Lib.hid hr
  have HRU := Lib.hid (RightU.of hr.ok)
  have CS := Lib.hid fun W => small_any s W (by omega)
  have CL := Lib.hid fun W h => levels_any r a PA rb pc me mb ne nb s W h hs
  have HLEN : Hid (s.data.toList.length = s.size) := Lib.hid (by simp)
  have CW := Lib.hid fun W => isSmallWord_any (strL (low s.data.toList)) W (by rw [strL_size, low_len, HLEN.out]; omega)
  obtain ⟨A5, c5, hlk, hs5, hn5⟩ := hr.exc.looks (strL (low s.data.toList)) (by rw [strL_size, low_len, HLEN.out]; unfold maxLen; omega)
  simp only [strL_list] at hlk hs5 hn5
  have HLK := Lib.hid hlk; have HS5 := Lib.hid hs5
  have HAT := Lib.hid (hyRw_at r s.data.toList)
  have HW : Hid (hyW r s.data.toList = (hyRw r s.data.toList).filter (hyOk r s.size)) := Lib.hid (by unfold hyW; rw [HLEN.out])
  have HY : Hid (hyRw r s.data.toList = match excLook r (low s.data.toList) with | some l => l | none => if smWord (strL (low s.data.toList)) = true then oddTo (lvOf r s.data.toList) (s.size + 1) else []) := Lib.hid (by unfold hyRw; rw [HLEN.out])
  change Hid (∀ W, Calls Tryz.prog 84 #[.string s] W (Ret (.string (strL (low s.data.toList))) W)) at CS
  clear hlk hs5 hr
  cases ho : excLook r (low s.data.toList)
  case some zs =>
    rw [ho] at HLK HS5 HY
    simp only [Option.getD_some, Option.isSome_some] at HLK HS5 HY
    clear ho hn5
    go_enter Tryz.func63, Tryz.ntmps63
    go_upto_region 1 with fail
    refine wp_region_steady (Ext _) [?_, ?_, ?_, ?_, ?_, ?_, ?_, ?_, ?_, ?_, ?_, ?_] (by kernel_rfl) (by kernel_rfl) rfl (Ext.refl _).drew ?_ ?_
    rotate_left 12
    · iterate 12
        refine StepsT.cons (fun W hW => ?_) ?_
        · have h9 := HR.out.ext hW; have y6 := h9.blk.cell 6 _ rfl; have yl := h9.blk.lt; have hlk := HLK.out W hW; clear h9; first | (refine StepT.off rfl hW ?_; rfl) | (refine StepT.go rfl ?_; go_simp; first | (refine ⟨?_, hW⟩; rfl) | (refine Calls.mono (CS.out _) ?_; rintro e w4 ⟨rfl, hx⟩; refine ⟨?_, hW.trans hx⟩; rfl))
        simp only [Act.put, List.setIfInBounds_toArray, List.set_cons_zero, List.set_cons_succ]
      trivial
    intro W hW
    simp only [putAll, Act.put, List.setIfInBounds_toArray, List.set_cons_zero, List.set_cons_succ]
    go_upto_region 10 with fail
    have HXX := Lib.hid hW
    have HZ5 := Lib.hid (HS5.out.ext hW)
    have HYE := Lib.hid HY.out
    have HZL : Hid (zs.length ≤ 101) := Lib.hid (by have h := hyRw_len r s.data.toList; rw [HY.out, HLEN.out] at h; omega)
    clear hW HS5 HLK HY CW CL CS
    have hzl : zs.length ≤ 9223372036854775807 := by have := HZL.out; omega
    go_upto_region 11 with fail
    have HO0 := Lib.hid (Own.nil W W.heap.size)
    have HX0 := Lib.hid (Ext.refl W)
    go_loopw [48, 9, 11] (fun v48 v9 _ wr => ∃ k : Nat, k ≤ zs.length ∧ v48 = .int .i64 (k : Int) ∧ Hid (Own wr W.heap.size v9 ((zs.take k).filter (hyOk r s.size))) ∧ Hid (Ext W wr)) (fun v48 _ _ _ => zs.length - (intOf v48).toNat)
    case atStart => exact ⟨0, Nat.zero_le _, rfl, HO0, HX0⟩
    case round =>
      clear HO0 HX0
      obtain ⟨k, hk, rfl, HO, HX2⟩ := hrel
      have HPL : Hid (((zs.take k).filter (hyOk r s.size)).length ≤ 101) := Lib.hid (Nat.le_trans (List.length_filter_le _ _) (Nat.le_trans (by rw [List.length_take]; omega) HZL.out))
      by_cases hlt : k < zs.length
      case pos =>
        have ik : (k : Int) < (zs.length : Int) := by omega
        obtain ⟨sb, so, hpa, hsl, hsc⟩ := (HZ5.out.ri.ext HX2.out).2.2 (by omega)
        have c0 := hsc k hlt
        subst hpa
        obtain ⟨z0, z1⟩ : 0 ≤ zs.getD k 0 ∧ zs.getD k 0 ≤ (s.size : Int) := by
          have h := HAT.out (zs.getD k 0) (by rw [HYE.out, List.getD_eq_getElem?_getD, List.getElem?_eq_getElem hlt]; exact List.getElem_mem _)
          rwa [HLEN.out] at h
        have HFN := Lib.hid (filter_next (p := hyOk r s.size) hlt)
        clear hsc
        generalize zs.getD k 0 = z at *
        have h9 := (HR.out.ext (HXX.out.trans HX2.out)).blk
        have y3 := h9.cell 3 _ rfl; have y4 := h9.cell 4 _ rfl; have yl := h9.lt
        clear h9
        have u1 : IntKind.i64.wrap ((s.size : Int) - z) = (s.size : Int) - z := IntWalk.i64_in _ (by omega)
        by_cases h1 : r.left ≤ z
        case pos =>
          by_cases h2 : r.right ≤ (s.size : Int) - z
          case pos =>
            rw [if_pos (by unfold hyOk; rw [decide_eq_true h1, decide_eq_true h2]; rfl)] at HFN
            go_upto_region 15 with (first | (at_builtin; refine list_push rfl (.tmp 71) (.tmp 73) rfl W.heap.size _ ((zs.take k).filter (hyOk r s.size)) rfl (HO.out.ext (by repeat (first | exact Ext.refl _ | assumption | refine Ext.alloc ?_ _ | refine Ext.drew ?_ | refine Ext.drewN ?_ _ | (refine Ext.setCell ?_ (by simp <;> omega) _) | refine Ext.trans ?_ (by assumption)))) wr.heap.size z rfl (by simp) (by have := HPL.out; omega) (by have := HX2.out.size; simp; omega) ?_; intro v' w' ho hg; have HO2 := Lib.hid ho; have HX3 : Hid (Ext W w') := Lib.hid (own_ext hg (HO.out.ext (by repeat (first | exact Ext.refl _ | assumption | refine Ext.alloc ?_ _ | refine Ext.drew ?_ | refine Ext.drewN ?_ _ | (refine Ext.setCell ?_ (by simp <;> omega) _) | refine Ext.trans ?_ (by assumption)))) (HX2.out.trans (by repeat (first | exact Ext.refl _ | assumption | refine Ext.alloc ?_ _ | refine Ext.drew ?_ | refine Ext.drewN ?_ _ | (refine Ext.setCell ?_ (by simp <;> omega) _) | refine Ext.trans ?_ (by assumption))))); clear ho hg))
            rw [← HFN.out] at HO2
            clear y3 y4 yl
            go_wp2
            go_roundw
            case rel => exact ⟨k + 1, by omega, by go_num, HO2, HX3⟩
            case measure => simp [intOf]; omega
          case neg =>
            rw [if_neg (by unfold hyOk; rw [decide_eq_true h1, decide_eq_false h2]; decide)] at HFN
            rw [← HFN.out] at HO
            go_wp2
            go_roundw
            case rel => exact ⟨k + 1, by omega, by go_num, HO, HX2⟩
            case measure => simp [intOf]; omega
        case neg =>
          rw [if_neg (by unfold hyOk; rw [decide_eq_false h1]; simp)] at HFN
          rw [← HFN.out] at HO
          go_wp2
          go_roundw
          case rel => exact ⟨k + 1, by omega, by go_num, HO, HX2⟩
          case measure => simp [intOf]; omega
      case neg =>
        obtain rfl : k = zs.length := by omega
        have ik : ¬ (zs.length : Int) < (zs.length : Int) := by omega
        rw [List.take_length] at HO HPL
        obtain ⟨A9, c9, rfl, hc9, hr9⟩ := HO.out.form (by have := HPL.out; omega)
        go_wp2
        go_ret
        have hres : hyW r s.data.toList = zs.filter (hyOk r s.size) := by rw [HW.out, HYE.out]
        rw [hres]
        exact ⟨A9, c9, rfl, (⟨HO.out, hr9, hc9⟩ : SL _ _ _ _ _).mono HXX.out.size, HXX.out.trans HX2.out⟩
  case none =>
    rw [ho] at HLK HS5 HY
    simp only [Option.getD_none, Option.isSome_none, List.length_nil] at HLK HS5 HY
    obtain ⟨rfl, rfl⟩ := hn5 ho
    clear ho hn5 HS5
    cases hsm : smWord (strL (low s.data.toList))
    case false =>
      rw [hsm] at CW HY
      have HYE : Hid (hyRw r s.data.toList = []) := Lib.hid HY.out
      clear hsm HY
      go_enter Tryz.func63, Tryz.ntmps63
      go_upto_region 1 with fail
      refine wp_region_steady (Ext _) [?_, ?_, ?_, ?_, ?_, ?_, ?_, ?_, ?_, ?_, ?_, ?_] (by kernel_rfl) (by kernel_rfl) rfl (Ext.refl _).drew ?_ ?_
      rotate_left 12
      · iterate 12
          refine StepsT.cons (fun W hW => ?_) ?_
          · have h9 := HR.out.ext hW; have y6 := h9.blk.cell 6 _ rfl; have yl := h9.blk.lt; have hlk := HLK.out W hW; clear h9; first | (refine StepT.off rfl hW ?_; rfl) | (refine StepT.go rfl ?_; go_simp; first | (refine ⟨?_, hW⟩; rfl) | (refine Calls.mono (CS.out _) ?_; rintro e w4 ⟨rfl, hx⟩; refine ⟨?_, hW.trans hx⟩; rfl))
          simp only [Act.put, List.setIfInBounds_toArray, List.set_cons_zero, List.set_cons_succ]
        trivial
      intro W hW
      simp only [putAll, Act.put, List.setIfInBounds_toArray, List.set_cons_zero, List.set_cons_succ]
      have HXX := Lib.hid hW
      clear hW HLK
      go_upto_region 11 with (first | (go_at_call 84; refine Calls.mono (CS.out _) ?_; rintro e w1 ⟨rfl, hx⟩; have HX1 := Lib.hid hx; clear hx) | (go_at_call 107; refine Calls.mono (CW.out _) ?_; rintro e w1 ⟨rfl, rfl⟩))
      have HX0 := Lib.hid (Ext.refl w1)
      go_loopw [48, 9, 11] (fun v48 v9 _ wr => v48 = .int .i64 0 ∧ v9 = .slice none 0 0 ∧ Hid (Ext w1 wr)) (fun _ _ _ _ => 0)
      case atStart => exact ⟨rfl, rfl, HX0⟩
      case round =>
        obtain ⟨rfl, rfl, HX2⟩ := hrel
        go_wp2
        go_ret
        have hres : hyW r s.data.toList = [] := by rw [HW.out, HYE.out]; rfl
        rw [hres]
        exact ⟨none, 0, rfl, SL.nil _ _, (HXX.out.trans HX1.out).trans HX2.out⟩
    case true =>
      rw [hsm] at CW HY
      simp only [if_true] at HY
      clear hsm
      go_enter Tryz.func63, Tryz.ntmps63
      go_upto_region 1 with fail
      refine wp_region_steady (Ext _) [?_, ?_, ?_, ?_, ?_, ?_, ?_, ?_, ?_, ?_, ?_, ?_] (by kernel_rfl) (by kernel_rfl) rfl (Ext.refl _).drew ?_ ?_
      rotate_left 12
      · iterate 12
          refine StepsT.cons (fun W hW => ?_) ?_
          · have h9 := HR.out.ext hW; have y6 := h9.blk.cell 6 _ rfl; have yl := h9.blk.lt; have hlk := HLK.out W hW; clear h9; first | (refine StepT.off rfl hW ?_; rfl) | (refine StepT.go rfl ?_; go_simp; first | (refine ⟨?_, hW⟩; rfl) | (refine Calls.mono (CS.out _) ?_; rintro e w4 ⟨rfl, hx⟩; refine ⟨?_, hW.trans hx⟩; rfl))
          simp only [Act.put, List.setIfInBounds_toArray, List.set_cons_zero, List.set_cons_succ]
        trivial
      intro W hW
      simp only [putAll, Act.put, List.setIfInBounds_toArray, List.set_cons_zero, List.set_cons_succ]
      have HXW := Lib.hid hW
      clear hW HLK
      go_upto_region 4 with (first | (go_at_call 84; refine Calls.mono (CS.out _) ?_; rintro e w1 ⟨rfl, hx⟩; have HX1 := Lib.hid hx; clear hx) | (go_at_call 107; refine Calls.mono (CW.out _) ?_; rintro e w1 ⟨rfl, rfl⟩) | (go_at_call 78; refine Calls.mono (CL.out _ (HR.out.ext (HXW.out.trans HX1.out))) ?_; rintro e w2 ⟨A6, c6, rfl, hs6, hx⟩; have HS6 := Lib.hid hs6; have HX2 := Lib.hid hx; clear hs6 hx))
      have hs1 : s.size ≤ 100 := hs
      have hll : (lvList r s.data.toList).length = s.size + 1 := by unfold lvList lvK; rw [List.length_map, List.length_range, low_len, HLEN.out]
      have HLV : Hid (∀ k, k ≤ s.size → (lvList r s.data.toList).getD k 0 = lvOf r s.data.toList k) := Lib.hid fun k hk => lvList_at r _ (by rw [HLEN.out]; exact hk)
      have hL : Hid (∀ k, 0 ≤ lvOf r s.data.toList k) := Lib.hid fun k => by unfold lvOf; exact lvBy_nonneg _ _ _ _
      have hcast : (((s.size + 1 : Nat) : Int)) = (s.size : Int) + 1 := by omega
      rw [hll, hcast]
      clear hcast
      have HL9 := Lib.hid hll
      have HRI := Lib.hid HS6.out.ri
      rw [hll] at HRI
      clear hll HS6 CS CW CL
      generalize lvList r s.data.toList = ll at *
      generalize lvOf r s.data.toList = f at *
      have HO0 := Lib.hid (Own.nil w2 w2.heap.size)
      have HX0 := Lib.hid (Ext.refl w2)
      go_loopw [33, 5, 7, 8] (fun v33 v5 _ _ wr => ∃ k : Nat, k ≤ s.size + 1 ∧ v33 = .int .i64 (k : Int) ∧ Hid (Own wr w2.heap.size v5 (oddTo f k)) ∧ Hid (Ext w2 wr)) (fun v33 _ _ _ _ => s.size + 1 - (intOf v33).toNat)
      case atStart => exact ⟨0, Nat.zero_le _, rfl, HO0, HX0⟩
      case round =>
        clear HO0 HX0
        obtain ⟨k, hk, rfl, HO, HX3⟩ := hrel
        have HPL : Hid ((oddTo f k).length ≤ 101) := Lib.hid (Nat.le_trans oddTo_len (by omega))
        by_cases hlt : k < s.size + 1
        case pos =>
          have ik : (k : Int) < (s.size : Int) + 1 := by omega
          obtain ⟨sb, so, hpa, hsl, hsc⟩ := (HRI.out.ext HX3.out).2.2 (by omega)
          have c0 := hsc k hlt
          subst hpa
          rw [HLV.out k (by omega)] at c0
          have hz0 := hL.out k
          have HON : Hid (oddTo f (k + 1) = if (f k).tmod 2 = 1 then oddTo f k ++ [(k : Int)] else oddTo f k) := Lib.hid rfl
          clear hsc
          generalize f k = z at *
          have ht : z.tmod 2 = z % 2 := Int.tmod_eq_emod_of_nonneg hz0
          rw [ht] at HON
          clear ht
          have u2 : IntKind.i64.wrap (z % 2) = z % 2 := IntWalk.i64_in _ (by omega)
          by_cases h1 : z % 2 = 1
          case pos =>
            rw [if_pos h1] at HON
            go_upto_region 8 with (first | (at_builtin; refine list_push rfl (.tmp 41) (.tmp 43) rfl w2.heap.size _ (oddTo f k) rfl (HO.out.ext (by repeat (first | exact Ext.refl _ | assumption | refine Ext.alloc ?_ _ | refine Ext.drew ?_ | refine Ext.drewN ?_ _ | (refine Ext.setCell ?_ (by simp <;> omega) _) | refine Ext.trans ?_ (by assumption)))) wr.heap.size (k : Int) rfl (by simp) (by have := HPL.out; omega) (by have := HX3.out.size; simp; omega) ?_; intro v' w' ho hg; have HO2 := Lib.hid ho; have HX4 : Hid (Ext w2 w') := Lib.hid (own_ext hg (HO.out.ext (by repeat (first | exact Ext.refl _ | assumption | refine Ext.alloc ?_ _ | refine Ext.drew ?_ | refine Ext.drewN ?_ _ | (refine Ext.setCell ?_ (by simp <;> omega) _) | refine Ext.trans ?_ (by assumption)))) (HX3.out.trans (by repeat (first | exact Ext.refl _ | assumption | refine Ext.alloc ?_ _ | refine Ext.drew ?_ | refine Ext.drewN ?_ _ | (refine Ext.setCell ?_ (by simp <;> omega) _) | refine Ext.trans ?_ (by assumption))))); clear ho hg))
            rw [← HON.out] at HO2
            clear c0
            go_wp2
            go_roundw
            case rel => exact ⟨k + 1, by omega, by go_num, HO2, HX4⟩
            case measure => simp [intOf]; omega
          case neg =>
            rw [if_neg h1] at HON
            rw [← HON.out] at HO
            go_wp2
            go_roundw
            case rel => exact ⟨k + 1, by omega, by go_num, HO, HX3⟩
            case measure => simp [intOf]; omega
        case neg =>
          obtain rfl : k = s.size + 1 := by omega
          have ik : ¬ ((s.size : Int) + 1) < (s.size : Int) + 1 := by omega
          obtain ⟨A5, c5, rfl, hc5, hr5⟩ := HO.out.form (by have := HPL.out; omega)
          have HYE := Lib.hid HY.out
          have HXX : Hid (Ext w wr) := Lib.hid (((HXW.out.trans HX1.out).trans HX2.out).trans HX3.out)
          have HZ5 : Hid (SL wr 0 A5 c5 (oddTo f (s.size + 1))) := Lib.hid ((⟨HO.out, hr5, hc5⟩ : SL _ _ _ _ _).mono (Nat.zero_le _))
          have HZL := HPL
          clear HY hc5 hr5 HO HX3 HPL hk hlt
          generalize oddTo f (s.size + 1) = zs at *
          generalize wr = W at *
          go_upto_region 10 with fail
          have hzl : zs.length ≤ 9223372036854775807 := by have := HZL.out; omega
          go_upto_region 11 with fail
          have HO0 := Lib.hid (Own.nil W W.heap.size)
          have HX0 := Lib.hid (Ext.refl W)
          go_loopw [48, 9, 11] (fun v48 v9 _ wr => ∃ k : Nat, k ≤ zs.length ∧ v48 = .int .i64 (k : Int) ∧ Hid (Own wr W.heap.size v9 ((zs.take k).filter (hyOk r s.size))) ∧ Hid (Ext W wr)) (fun v48 _ _ _ => zs.length - (intOf v48).toNat)
          case atStart => exact ⟨0, Nat.zero_le _, rfl, HO0, HX0⟩
          case round =>
            clear HO0 HX0
            obtain ⟨k, hk, rfl, HO, HX2⟩ := hrel
            have HPL : Hid (((zs.take k).filter (hyOk r s.size)).length ≤ 101) := Lib.hid (Nat.le_trans (List.length_filter_le _ _) (Nat.le_trans (by rw [List.length_take]; omega) HZL.out))
            by_cases hlt : k < zs.length
            case pos =>
              have ik : (k : Int) < (zs.length : Int) := by omega
              obtain ⟨sb, so, hpa, hsl, hsc⟩ := (HZ5.out.ri.ext HX2.out).2.2 (by omega)
              have c0 := hsc k hlt
              subst hpa
              obtain ⟨z0, z1⟩ : 0 ≤ zs.getD k 0 ∧ zs.getD k 0 ≤ (s.size : Int) := by
                have h := HAT.out (zs.getD k 0) (by rw [HYE.out, List.getD_eq_getElem?_getD, List.getElem?_eq_getElem hlt]; exact List.getElem_mem _)
                rwa [HLEN.out] at h
              have HFN := Lib.hid (filter_next (p := hyOk r s.size) hlt)
              clear hsc
              generalize zs.getD k 0 = z at *
              have h9 := (HR.out.ext (HXX.out.trans HX2.out)).blk
              have y3 := h9.cell 3 _ rfl; have y4 := h9.cell 4 _ rfl; have yl := h9.lt
              clear h9
              have u1 : IntKind.i64.wrap ((s.size : Int) - z) = (s.size : Int) - z := IntWalk.i64_in _ (by omega)
              by_cases h1 : r.left ≤ z
              case pos =>
                by_cases h2 : r.right ≤ (s.size : Int) - z
                case pos =>
                  rw [if_pos (by unfold hyOk; rw [decide_eq_true h1, decide_eq_true h2]; rfl)] at HFN
                  go_upto_region 15 with (first | (at_builtin; refine list_push rfl (.tmp 71) (.tmp 73) rfl W.heap.size _ ((zs.take k).filter (hyOk r s.size)) rfl (HO.out.ext (by repeat (first | exact Ext.refl _ | assumption | refine Ext.alloc ?_ _ | refine Ext.drew ?_ | refine Ext.drewN ?_ _ | (refine Ext.setCell ?_ (by simp <;> omega) _) | refine Ext.trans ?_ (by assumption)))) wr.heap.size z rfl (by simp) (by have := HPL.out; omega) (by have := HX2.out.size; simp; omega) ?_; intro v' w' ho hg; have HO2 := Lib.hid ho; have HX3 : Hid (Ext W w') := Lib.hid (own_ext hg (HO.out.ext (by repeat (first | exact Ext.refl _ | assumption | refine Ext.alloc ?_ _ | refine Ext.drew ?_ | refine Ext.drewN ?_ _ | (refine Ext.setCell ?_ (by simp <;> omega) _) | refine Ext.trans ?_ (by assumption)))) (HX2.out.trans (by repeat (first | exact Ext.refl _ | assumption | refine Ext.alloc ?_ _ | refine Ext.drew ?_ | refine Ext.drewN ?_ _ | (refine Ext.setCell ?_ (by simp <;> omega) _) | refine Ext.trans ?_ (by assumption))))); clear ho hg))
                  rw [← HFN.out] at HO2
                  clear y3 y4 yl
                  go_wp2
                  go_roundw
                  case rel => exact ⟨k + 1, by omega, by go_num, HO2, HX3⟩
                  case measure => simp [intOf]; omega
                case neg =>
                  rw [if_neg (by unfold hyOk; rw [decide_eq_true h1, decide_eq_false h2]; decide)] at HFN
                  rw [← HFN.out] at HO
                  go_wp2
                  go_roundw
                  case rel => exact ⟨k + 1, by omega, by go_num, HO, HX2⟩
                  case measure => simp [intOf]; omega
              case neg =>
                rw [if_neg (by unfold hyOk; rw [decide_eq_false h1]; simp)] at HFN
                rw [← HFN.out] at HO
                go_wp2
                go_roundw
                case rel => exact ⟨k + 1, by omega, by go_num, HO, HX2⟩
                case measure => simp [intOf]; omega
            case neg =>
              obtain rfl : k = zs.length := by omega
              have ik : ¬ (zs.length : Int) < (zs.length : Int) := by omega
              rw [List.take_length] at HO HPL
              obtain ⟨A9, c9, rfl, hc9, hr9⟩ := HO.out.form (by have := HPL.out; omega)
              go_wp2
              go_ret
              have hres : hyW r s.data.toList = zs.filter (hyOk r s.size) := by rw [HW.out, HYE.out]
              rw [hres]
              exact ⟨A9, c9, rfl, (⟨HO.out, hr9, hc9⟩ : SL _ _ _ _ _).mono HXX.out.size, HXX.out.trans HX2.out⟩
end Go.Proofs.YtccdnieoaejgdaaGreatDoor
