/-
  Walk: the reference's error of exceptions or bars.
  Walk: the reference's bars of a word.
  The reference's hyphens, cut texts, and what a hyphened word is but for its hyphens, in plain words. No program in sight.
  Walk: a text cut at a byte (the base's Cut).
  Walk: whether a list has a number (the base's Has).
-/
import Derived.Test.YtccdnieoaejgdaaGreatDoorT2BF
import Derived.Test.YtccdnieoaejgdaaGreatDoorT2AS
import Derived.Test.YtccdnieoaejgdaaGreatDoorT2AT
import Derived.Test.YtccdnieoaejgdaaGreatDoorT2BC
import Derived.Test.YtccdnieoaejgdaaGreatDoorT2AD
set_option linter.unusedVariables false
set_option linter.unusedSimpArgs false
set_option linter.unusedSectionVars false
namespace Go.Proofs.YtccdnieoaejgdaaGreatDoor
open Go.RowKit Go.Lib

/-- The words that are known after k texts. -/
structure KNW (lt : Bool) (m : UInt8) (l : List ByteArray) (k : Nat) (ws : List (List UInt8)) : Prop where
  len : ws.length = k
  mem : ∀ y, y ∈ ws ↔ (mkLook lt m l k y).isSome = true
theorem KNW.next {lt : Bool} {m : UInt8} {l : List ByteArray} {k : Nat} {ws : List (List UInt8)} (h : KNW lt m l k ws) {x : List UInt8} (hn : ∀ y, (mkLook lt m l (k + 1) y).isSome = true ↔ y = x ∨ (mkLook lt m l k y).isSome = true) : KNW lt m l (k + 1) (ws ++ [x]) :=
  ⟨by rw [List.length_append, h.len]; rfl, fun y => by rw [hn y, List.mem_append, h.mem y, List.mem_singleton]; exact or_comm⟩
theorem strL_inj {a b : List UInt8} (h : strL a = strL b) : a = b := by rw [← strL_list a, h, strL_list]
theorem KNW.has {lt : Bool} {m : UInt8} {l : List ByteArray} {k : Nat} {ws : List (List UInt8)} (h : KNW lt m l k ws) (x : List UInt8) : hasT (ws.map strL) (strL x) = (mkLook lt m l k x).isSome := by
  rw [Bool.eq_iff_iff, hasT_iff, ← h.mem x, List.mem_map]
  constructor
  · rintro ⟨y, hy, he⟩; rw [← strL_inj he]; exact hy
  · intro hx; exact ⟨x, hx, rfl⟩
theorem OwnW.extg {w0 W w' : World} {v : Value} {ws : List (List UInt8)} (hg : W.grownBy w' v.ownBlock) (hx : Ext w0 W) (h : OwnW W w0.heap.size v ws) : Ext w0 w' := hx.grown hg fun k hk => (World.ownsRow.lt h k hk).1
set_option maxRecDepth 100000 in
set_option maxHeartbeats 4000000 in
theorem checkMarked_any (A : Option Addr) (c : Nat) (l : List ByteArray) (m : UInt8) (mz : Int) (hm : mz = (m.toNat : Int)) (lt : Bool) (w : World) (h : RS w A l.length l) (hs : ∀ k, k < l.length → (l.getD k ByteArray.empty).size ≤ 100000) :
    Calls Tryz.prog 118 #[.slice A l.length c, .int .u8 mz, .bool lt] w (Ret (.tuple #[.int .i64 (mkChk lt m l).1, .int .i64 (mkChk lt m l).2]) w) := by
  have hbig := h.2.1
  have HR := Lib.hid h; clear h
  have HSZ := Lib.hid hs; clear hs
  have CMM := Lib.hid fun s hs W => readMarked_any s m mz hm lt W hs
  clear hm
  by_cases hmany : 40 < l.length
  case pos =>
    have im : 40 < (l.length : Int) := by omega
    have HE := Lib.hid (mkChk_many (lt := lt) (m := m) hmany)
    go_enter Tryz.func118, Tryz.ntmps118
    go_wp2
    go_ret2
    exact Ret.mk' (by rw [HE.out]; rfl) (by repeat (first | exact Ext.refl _ | assumption | refine Ext.alloc ?_ _ | refine Ext.drew ?_ | refine Ext.drewN ?_ _ | (refine Ext.setCell ?_ (by simp <;> omega) _) | refine Ext.trans ?_ (by assumption)))
  case neg =>
    have im : ¬ 40 < (l.length : Int) := by omega
    have HNL := Lib.hid hmany
    go_enter Tryz.func118, Tryz.ntmps118
    go_upto_region 5 with fail
    go_loopw [8, 9] (fun v8 v9 wr => ∃ (k : Nat) (ws : List (List UInt8)), k ≤ l.length ∧ v9 = .int .i64 (k : Int) ∧ Hid (mkBad lt m l k = none) ∧ Hid (KNW lt m l k ws) ∧ Hid (OwnW wr w.heap.size v8 ws) ∧ Hid (Ext w wr)) (fun _ v9 _ => l.length - (intOf v9).toNat)
    case atStart => exact ⟨0, [], Nat.zero_le _, rfl, Lib.hid rfl, Lib.hid ⟨rfl, fun y => by simp [mkLook]⟩, Lib.hid (OwnW.nil _ _), Lib.hid (Ext.refl _)⟩
    case round =>
      obtain ⟨k, ws, hk, rfl, HPB, HKW, HOW, HX⟩ := hrel
      by_cases hlt : k < l.length
      case pos =>
        have ik : (k : Int) < (l.length : Int) := by omega
        have HLT := Lib.hid hlt
        obtain ⟨A8, c8, hv8, hrw⟩ := OwnW.form HOW.out (by have := HKW.out.len; omega)
        subst hv8
        have HRW := Lib.hid hrw; clear hrw
        have HKN := Lib.hid HKW.out.has
        have HRX := Lib.hid (HR.out.ext HX.out)
        obtain ⟨b, off, rfl, hbw, hcell⟩ := HRX.out.2.2 (by omega)
        have ck := hcell k hlt
        clear hcell
        have CM := Lib.hid (CMM.out (l.getD k ByteArray.empty) (HSZ.out k hlt))
        have HMK := Lib.hid (mkOf_rm lt m (l.getD k ByteArray.empty).data.toList)
        have HPL : Hid ((rmP lt m (l.getD k ByteArray.empty).data.toList).length ≤ 100000) := Lib.hid (by
          have h1 := HSZ.out k hlt
          have h3 : (l.getD k ByteArray.empty).data.toList.length = (l.getD k ByteArray.empty).size := by simp
          unfold rmP
          cases h2 : rmTo lt m (l.getD k ByteArray.empty).data.toList (l.getD k ByteArray.empty).data.toList.length with
          | none => simp
          | some q => have := rmTo_bd h2; simp only [Option.getD_some]; omega)
        have HE3 : Hid (mkOf lt m (l.getD k ByteArray.empty).data.toList = none → mkChk lt m l = ((k : Int), 3)) := Lib.hid (fun h => mkChk_bad HNL.out HPB.out (mkErr_none h) (by decide) HLT.out)
        have HE5 : Hid (∀ x ps, mkOf lt m (l.getD k ByteArray.empty).data.toList = some (x, ps) → (mkLook lt m l k x).isSome = true → mkErr lt m l k = 5) := Lib.hid (fun x ps ho h => by unfold mkErr; rw [ho]; simp only; rw [if_pos h])
        have HE0 : Hid (∀ x ps, mkOf lt m (l.getD k ByteArray.empty).data.toList = some (x, ps) → (mkLook lt m l k x).isSome = false → mkErr lt m l k = 0) := Lib.hid (fun x ps ho h => by unfold mkErr; rw [ho]; simp only; rw [if_neg (by rw [h]; simp)])
        have HNW : Hid (∀ x ps, mkOf lt m (l.getD k ByteArray.empty).data.toList = some (x, ps) → ∀ y, (mkLook lt m l (k + 1) y).isSome = true ↔ y = x ∨ (mkLook lt m l k y).isSome = true) := Lib.hid (fun x ps ho y => by
          rw [mkLook, ho]
          simp only
          by_cases h : y = x
          · rw [if_pos h]; simp [h]
          · rw [if_neg h]; simp [h])
        unfold RetRM at CM
        generalize l.getD k ByteArray.empty = t at *
        generalize mkOf lt m t.data.toList = oo at *
        generalize rmW lt m t.data.toList = x at *
        generalize rmP lt m t.data.toList = ps at *
        generalize rmB lt m t.data.toList = ok at *
        clear CMM HSZ HR
        cases ok
        case false =>
          rw [if_neg (by simp)] at HMK
          have HE := Lib.hid (HE3.out HMK.out)
          clear HE3 HMK HE5 HE0 HNW
          -- BEGIN A
          go_wp2_with (first | (go_at_call 65; refine Calls.mono (CM.out _) ?_; rintro e w1 ⟨v1, rfl, ho1, hx1⟩; obtain ⟨A9, c9, rfl, hc9, hr9⟩ := Own.form ho1 (by have := HPL.out; omega); have HX1 := Lib.hid hx1; clear ho1 hx1 hc9 hr9) | (go_at_call 145; refine Calls.mono (CT.out _ (by repeat (first | exact Ext.refl _ | assumption | refine Ext.alloc ?_ _ | refine Ext.drew ?_ | refine Ext.drewN ?_ _ | (refine Ext.setCell ?_ (by simp <;> omega) _) | refine Ext.trans ?_ (by assumption)))) ?_; rintro e w2 ⟨rfl, hx2⟩; have HX2 := Lib.hid hx2; clear hx2))
          go_ret2
          exact Ret.mk' (by rw [HE.out]; rfl) (by repeat (first | exact Ext.refl _ | assumption | refine Ext.alloc ?_ _ | refine Ext.drew ?_ | refine Ext.drewN ?_ _ | (refine Ext.setCell ?_ (by simp <;> omega) _) | refine Ext.trans ?_ (by assumption)))
          -- END A
        case true =>
          cases lt
          case true =>
            -- BEGIN B
            rw [if_pos ⟨rfl, .inl rfl⟩] at HMK
            have HOF := HMK
            have HLK := Lib.hid (HKN.out x)
            have HKM := Lib.hid (KNW.next HKW.out (HNW.out x ps HOF.out))
            have hxs := strL_size x
            cases hh : hasT (ws.map strL) (strL x)
            case true =>
              have HE : Hid (mkChk true m l = ((k : Int), 5)) := Lib.hid (mkChk_bad HNL.out HPB.out (HE5.out x ps HOF.out (by rw [← HLK.out]; exact hh)) (by decide) HLT.out)
              have CT : Hid (∀ W, Ext wr W → Calls Tryz.prog 145 #[.slice A8 ws.length c8, .string (strL x)] W (Ret (.bool true) W)) := Lib.hid (fun W hx => by have h := hasText_any A8 c8 (ws.map strL) (strL x) W (HRW.out.ext hx); rw [List.length_map, hh] at h; exact h)
              clear hh HE5 HE0 HE3 HNW HKM HOF
              go_wp2_with (first | (go_at_call 65; refine Calls.mono (CM.out _) ?_; rintro e w1 ⟨v1, rfl, ho1, hx1⟩; obtain ⟨A9, c9, rfl, hc9, hr9⟩ := Own.form ho1 (by have := HPL.out; omega); have HX1 := Lib.hid hx1; clear ho1 hx1 hc9 hr9) | (go_at_call 145; refine Calls.mono (CT.out _ (by repeat (first | exact Ext.refl _ | assumption | refine Ext.alloc ?_ _ | refine Ext.drew ?_ | refine Ext.drewN ?_ _ | (refine Ext.setCell ?_ (by simp <;> omega) _) | refine Ext.trans ?_ (by assumption)))) ?_; rintro e w2 ⟨rfl, hx2⟩; have HX2 := Lib.hid hx2; clear hx2))
              go_ret2
              exact Ret.mk' (by rw [HE.out]; rfl) (by repeat (first | exact Ext.refl _ | assumption | refine Ext.alloc ?_ _ | refine Ext.drew ?_ | refine Ext.drewN ?_ _ | (refine Ext.setCell ?_ (by simp <;> omega) _) | refine Ext.trans ?_ (by assumption)))
            case false =>
              have HPN := Lib.hid (mkBad_next HPB.out (HE0.out x ps HOF.out (by rw [← HLK.out]; exact hh)))
              have CT : Hid (∀ W, Ext wr W → Calls Tryz.prog 145 #[.slice A8 ws.length c8, .string (strL x)] W (Ret (.bool false) W)) := Lib.hid (fun W hx => by have h := hasText_any A8 c8 (ws.map strL) (strL x) W (HRW.out.ext hx); rw [List.length_map, hh] at h; exact h)
              clear hh HE5 HE0 HE3 HNW HOF
              go_upto_region 12 with (first | (go_at_call 65; refine Calls.mono (CM.out _) ?_; rintro e w1 ⟨v1, rfl, ho1, hx1⟩; obtain ⟨A9, c9, rfl, hc9, hr9⟩ := Own.form ho1 (by have := HPL.out; omega); have HX1 := Lib.hid hx1; clear ho1 hx1 hc9 hr9) | (go_at_call 145; refine Calls.mono (CT.out _ (by repeat (first | exact Ext.refl _ | assumption | refine Ext.alloc ?_ _ | refine Ext.drew ?_ | refine Ext.drewN ?_ _ | (refine Ext.setCell ?_ (by simp <;> omega) _) | refine Ext.trans ?_ (by assumption)))) ?_; rintro e w2 ⟨rfl, hx2⟩; have HX2 := Lib.hid hx2; clear hx2))
              go_upto_region 6 with (at_builtin; refine list_pushW rfl (.tmp 49) (.tmp 51) rfl w.heap.size _ ws rfl (HOW.out.ext (by repeat (first | exact Ext.refl _ | assumption | refine Ext.alloc ?_ _ | refine Ext.drew ?_ | refine Ext.drewN ?_ _ | (refine Ext.setCell ?_ (by simp <;> omega) _) | refine Ext.trans ?_ (by assumption)))) w2.heap.size x rfl (by simp) (by have := HKW.out.len; omega) (by have h1 := HX.out.size; have h2 := (HX1.out.trans HX2.out).size; simp; omega) ?_; intro v' w4 ho hg; have HO4 := Lib.hid ho; have HX4 : Hid (Ext w w4) := Lib.hid (OwnW.extg hg (HX.out.trans (by repeat (first | exact Ext.refl _ | assumption | refine Ext.alloc ?_ _ | refine Ext.drew ?_ | refine Ext.drewN ?_ _ | (refine Ext.setCell ?_ (by simp <;> omega) _) | refine Ext.trans ?_ (by assumption)))) (HOW.out.ext (by repeat (first | exact Ext.refl _ | assumption | refine Ext.alloc ?_ _ | refine Ext.drew ?_ | refine Ext.drewN ?_ _ | (refine Ext.setCell ?_ (by simp <;> omega) _) | refine Ext.trans ?_ (by assumption))))); clear ho hg)
              go_wp2
              go_roundw
              case rel => exact ⟨k + 1, ws ++ [x], by omega, by go_num, HPN, HKM, HO4, HX4⟩
              case measure => simp [intOf]; omega
            -- END B
          case false =>
            by_cases h0 : ps.length = 0
            case pos =>
              -- BEGIN C
              have i0 : (ps.length : Int) = 0 := by omega
              rw [if_neg (by rintro ⟨_, h | h⟩; (cases h); omega)] at HMK
              have HE := Lib.hid (HE3.out HMK.out)
              clear HE3 HMK HE5 HE0 HNW
              go_wp2_with (first | (go_at_call 65; refine Calls.mono (CM.out _) ?_; rintro e w1 ⟨v1, rfl, ho1, hx1⟩; obtain ⟨A9, c9, rfl, hc9, hr9⟩ := Own.form ho1 (by have := HPL.out; omega); have HX1 := Lib.hid hx1; clear ho1 hx1 hc9 hr9) | (go_at_call 145; refine Calls.mono (CT.out _ (by repeat (first | exact Ext.refl _ | assumption | refine Ext.alloc ?_ _ | refine Ext.drew ?_ | refine Ext.drewN ?_ _ | (refine Ext.setCell ?_ (by simp <;> omega) _) | refine Ext.trans ?_ (by assumption)))) ?_; rintro e w2 ⟨rfl, hx2⟩; have HX2 := Lib.hid hx2; clear hx2))
              go_ret2
              exact Ret.mk' (by rw [HE.out]; rfl) (by repeat (first | exact Ext.refl _ | assumption | refine Ext.alloc ?_ _ | refine Ext.drew ?_ | refine Ext.drewN ?_ _ | (refine Ext.setCell ?_ (by simp <;> omega) _) | refine Ext.trans ?_ (by assumption)))
              -- END C
            case neg =>
              -- BEGIN D
              have i0 : ¬ (ps.length : Int) = 0 := by omega
              rw [if_pos ⟨rfl, .inr (by omega)⟩] at HMK
              have HOF := HMK
              have HLK := Lib.hid (HKN.out x)
              have HKM := Lib.hid (KNW.next HKW.out (HNW.out x ps HOF.out))
              have hxs := strL_size x
              cases hh : hasT (ws.map strL) (strL x)
              case true =>
                have HE : Hid (mkChk false m l = ((k : Int), 5)) := Lib.hid (mkChk_bad HNL.out HPB.out (HE5.out x ps HOF.out (by rw [← HLK.out]; exact hh)) (by decide) HLT.out)
                have CT : Hid (∀ W, Ext wr W → Calls Tryz.prog 145 #[.slice A8 ws.length c8, .string (strL x)] W (Ret (.bool true) W)) := Lib.hid (fun W hx => by have h := hasText_any A8 c8 (ws.map strL) (strL x) W (HRW.out.ext hx); rw [List.length_map, hh] at h; exact h)
                clear hh HE5 HE0 HE3 HNW HKM HOF
                go_wp2_with (first | (go_at_call 65; refine Calls.mono (CM.out _) ?_; rintro e w1 ⟨v1, rfl, ho1, hx1⟩; obtain ⟨A9, c9, rfl, hc9, hr9⟩ := Own.form ho1 (by have := HPL.out; omega); have HX1 := Lib.hid hx1; clear ho1 hx1 hc9 hr9) | (go_at_call 145; refine Calls.mono (CT.out _ (by repeat (first | exact Ext.refl _ | assumption | refine Ext.alloc ?_ _ | refine Ext.drew ?_ | refine Ext.drewN ?_ _ | (refine Ext.setCell ?_ (by simp <;> omega) _) | refine Ext.trans ?_ (by assumption)))) ?_; rintro e w2 ⟨rfl, hx2⟩; have HX2 := Lib.hid hx2; clear hx2))
                go_ret2
                exact Ret.mk' (by rw [HE.out]; rfl) (by repeat (first | exact Ext.refl _ | assumption | refine Ext.alloc ?_ _ | refine Ext.drew ?_ | refine Ext.drewN ?_ _ | (refine Ext.setCell ?_ (by simp <;> omega) _) | refine Ext.trans ?_ (by assumption)))
              case false =>
                have HPN := Lib.hid (mkBad_next HPB.out (HE0.out x ps HOF.out (by rw [← HLK.out]; exact hh)))
                have CT : Hid (∀ W, Ext wr W → Calls Tryz.prog 145 #[.slice A8 ws.length c8, .string (strL x)] W (Ret (.bool false) W)) := Lib.hid (fun W hx => by have h := hasText_any A8 c8 (ws.map strL) (strL x) W (HRW.out.ext hx); rw [List.length_map, hh] at h; exact h)
                clear hh HE5 HE0 HE3 HNW HOF
                go_upto_region 12 with (first | (go_at_call 65; refine Calls.mono (CM.out _) ?_; rintro e w1 ⟨v1, rfl, ho1, hx1⟩; obtain ⟨A9, c9, rfl, hc9, hr9⟩ := Own.form ho1 (by have := HPL.out; omega); have HX1 := Lib.hid hx1; clear ho1 hx1 hc9 hr9) | (go_at_call 145; refine Calls.mono (CT.out _ (by repeat (first | exact Ext.refl _ | assumption | refine Ext.alloc ?_ _ | refine Ext.drew ?_ | refine Ext.drewN ?_ _ | (refine Ext.setCell ?_ (by simp <;> omega) _) | refine Ext.trans ?_ (by assumption)))) ?_; rintro e w2 ⟨rfl, hx2⟩; have HX2 := Lib.hid hx2; clear hx2))
                go_upto_region 6 with (at_builtin; refine list_pushW rfl (.tmp 49) (.tmp 51) rfl w.heap.size _ ws rfl (HOW.out.ext (by repeat (first | exact Ext.refl _ | assumption | refine Ext.alloc ?_ _ | refine Ext.drew ?_ | refine Ext.drewN ?_ _ | (refine Ext.setCell ?_ (by simp <;> omega) _) | refine Ext.trans ?_ (by assumption)))) w2.heap.size x rfl (by simp) (by have := HKW.out.len; omega) (by have h1 := HX.out.size; have h2 := (HX1.out.trans HX2.out).size; simp; omega) ?_; intro v' w4 ho hg; have HO4 := Lib.hid ho; have HX4 : Hid (Ext w w4) := Lib.hid (OwnW.extg hg (HX.out.trans (by repeat (first | exact Ext.refl _ | assumption | refine Ext.alloc ?_ _ | refine Ext.drew ?_ | refine Ext.drewN ?_ _ | (refine Ext.setCell ?_ (by simp <;> omega) _) | refine Ext.trans ?_ (by assumption)))) (HOW.out.ext (by repeat (first | exact Ext.refl _ | assumption | refine Ext.alloc ?_ _ | refine Ext.drew ?_ | refine Ext.drewN ?_ _ | (refine Ext.setCell ?_ (by simp <;> omega) _) | refine Ext.trans ?_ (by assumption))))); clear ho hg)
                go_wp2
                go_roundw
                case rel => exact ⟨k + 1, ws ++ [x], by omega, by go_num, HPN, HKM, HO4, HX4⟩
                case measure => simp [intOf]; omega
              -- END D
      case neg =>
        -- BEGIN E
        obtain rfl : k = l.length := by omega
        have ik : ¬ (l.length : Int) < (l.length : Int) := by omega
        have HE : Hid (mkChk lt m l = (0, 0)) := Lib.hid (by unfold mkChk; rw [if_neg HNL.out, HPB.out])
        go_wp2
        go_ret2
        exact Ret.mk' (by rw [HE.out]; rfl) (by repeat (first | exact Ext.refl _ | assumption | refine Ext.alloc ?_ _ | refine Ext.drew ?_ | refine Ext.drewN ?_ _ | (refine Ext.setCell ?_ (by simp <;> omega) _) | refine Ext.trans ?_ (by assumption)))
        -- END E
end Go.Proofs.YtccdnieoaejgdaaGreatDoor
namespace Go.Proofs.YtccdnieoaejgdaaGreatDoor
open Go.RowKit Go.Lib

theorem mkBad_pre {lt : Bool} {m : UInt8} {l : List ByteArray} {n : Nat} (h : mkBad lt m l (n + 1) = none) : mkBad lt m l n = none ∧ ∃ y, mkOf lt m (l.getD n ByteArray.empty).data.toList = some y ∧ mkLook lt m l n y.1 = none := by
  rw [mkBad] at h
  cases hb : mkBad lt m l n with
  | some k => rw [hb] at h; cases h
  | none =>
    rw [hb] at h
    simp only at h
    refine ⟨rfl, ?_⟩
    have h : mkErr lt m l n = 0 := by
      by_cases he : mkErr lt m l n = 0
      · exact he
      · rw [if_neg he] at h; cases h
    unfold mkErr at h
    cases ho : mkOf lt m (l.getD n ByteArray.empty).data.toList with
    | none => rw [ho] at h; simp at h
    | some y =>
      rw [ho] at h
      refine ⟨y, rfl, ?_⟩
      simp only at h
      cases hl : mkLook lt m l n y.1 with
      | none => rfl
      | some z => rw [hl] at h; simp at h
theorem mkLook_hit {lt : Bool} {m : UInt8} {l : List ByteArray} {x : List UInt8} {ps : List Int} {k : Nat} (hk : mkOf lt m (l.getD k ByteArray.empty).data.toList = some (x, ps)) : ∀ n, mkBad lt m l n = none → k < n → mkLook lt m l n x = some ps
  | n + 1, hb, hlt => by
    obtain ⟨h1, y, h2, h3⟩ := mkBad_pre hb
    rw [mkLook, h2]
    simp only
    rcases Nat.lt_or_ge k n with h4 | h4
    · have ih := mkLook_hit hk n h1 h4
      rw [if_neg (fun e => by rw [← e, ih] at h3; cases h3)]
      exact ih
    · obtain rfl : k = n := by omega
      rw [hk] at h2
      cases h2
      rw [if_pos rfl]
theorem mkLook_miss {lt : Bool} {m : UInt8} {l : List ByteArray} {w : List UInt8} : ∀ n, (∀ k x ps, k < n → mkOf lt m (l.getD k ByteArray.empty).data.toList = some (x, ps) → x ≠ w) → mkLook lt m l n w = none
  | 0, _ => rfl
  | n + 1, h => by
    rw [mkLook]
    cases ho : mkOf lt m (l.getD n ByteArray.empty).data.toList with
    | none => exact mkLook_miss n fun k x ps hk => h k x ps (by omega)
    | some y =>
      simp only
      rw [if_neg (fun e => h n y.1 y.2 (by omega) ho e.symm)]
      exact mkLook_miss n fun k x ps hk => h k x ps (by omega)
theorem mkBad_get {lt : Bool} {m : UInt8} {l : List ByteArray} {k : Nat} : ∀ n, mkBad lt m l n = none → k < n → mkOf lt m (l.getD k ByteArray.empty).data.toList = some (rmW lt m (l.getD k ByteArray.empty).data.toList, rmP lt m (l.getD k ByteArray.empty).data.toList)
  | n + 1, hb, hlt => by
    obtain ⟨h1, y, h2, h3⟩ := mkBad_pre hb
    rcases Nat.lt_or_ge k n with h4 | h4
    · exact mkBad_get n h1 h4
    · obtain rfl : k = n := by omega
      rw [mkOf_rm] at h2 ⊢
      split at h2
      · rename_i h5
        rw [if_pos h5]
      · cases h2
theorem ownI_mono {w : World} {base base' : Nat} {v : Value} {zs : List Int} (h : Own w base v zs) (hb : base' ≤ base) : Own w base' v zs := by
  refine ⟨h.1, ?_⟩
  rcases h.2 with h1 | ⟨g, cap, cur, h1, h2, h3⟩
  · exact .inl h1
  · exact .inr ⟨g, cap, cur, h1, Nat.le_trans hb h2, h3⟩
set_option maxRecDepth 100000 in
set_option maxHeartbeats 4000000 in
theorem rBars_any (r : RU) (a : RuA) (s : ByteArray) (w : World) (h : RuR w a r) (hs : ∀ k, k < r.bars.length → (r.bars.getD k ByteArray.empty).size ≤ 100000) (hR : mkBad false 124 r.bars r.bars.length = none) :
    Calls Tryz.prog 77 #[r.val a, .string s] w (RetI (barLook r s.data.toList) w) := by
  obtain ⟨pa, pc, ea, ec, ba, bc⟩ := a
  have hbig := h.bars.2.1
  have HRS := Lib.hid h.bars
  clear h
  simp only at HRS
  unfold RU.val
  simp only
  have HSZ := Lib.hid hs; clear hs
  have HBL : Hid (barLook r s.data.toList = (mkLook false 124 r.bars r.bars.length s.data.toList).getD []) := Lib.hid rfl
  generalize barLook r s.data.toList = out at *
  generalize r.pats = l1 at *
  generalize r.excs = l2 at *
  generalize r.bars = l at *
  generalize r.left = z1 at *
  generalize r.right = z2 at *
  have HIT : Hid (∀ k, k < l.length → rmW false 124 (l.getD k ByteArray.empty).data.toList = s.data.toList → out = rmP false 124 (l.getD k ByteArray.empty).data.toList) := Lib.hid (fun k hk e => by
    rw [HBL.out, ← e, mkLook_hit (mkBad_get _ hR hk) _ hR hk]; rfl)
  have HMS : Hid ((∀ q, q < l.length → rmW false 124 (l.getD q ByteArray.empty).data.toList ≠ s.data.toList) → out = []) := Lib.hid (fun h => by
    rw [HBL.out, mkLook_miss]
    · rfl
    · intro k x ps hk ho
      rw [mkBad_get _ hR hk] at ho
      cases ho
      exact h k hk)
  have CMM := Lib.hid fun s hs W => readMarked_any s 124 124 rfl false W hs
  clear hR HBL
  go_enter Tryz.func77, Tryz.ntmps77
  go_upto_region 2 with fail
  have HB := Lib.hid (Blk.new w 24 #[.slice pa l1.length pc, .slice ea l2.length ec, .slice ba l.length bc, .int .i64 z1, .int .i64 z2])
  have HX0 : Hid (Ext w (w.alloc (.cells #[.slice pa l1.length pc, .slice ea l2.length ec, .slice ba l.length bc, .int .i64 z1, .int .i64 z2] 24))) := Lib.hid ((Ext.refl w).alloc _)
  generalize w.alloc (.cells #[.slice pa l1.length pc, .slice ea l2.length ec, .slice ba l.length bc, .int .i64 z1, .int .i64 z2] 24) = w0 at *
  go_loopw [5] (fun v5 wr => ∃ k : Nat, k ≤ l.length ∧ v5 = .int .i64 (k : Int) ∧ Hid (∀ q, q < k → rmW false 124 (l.getD q ByteArray.empty).data.toList ≠ s.data.toList) ∧ Hid (Ext w0 wr)) (fun v5 _ => l.length - (intOf v5).toNat)
  case atStart => exact ⟨0, Nat.zero_le _, rfl, Lib.hid (fun q hq => absurd hq (by omega)), Lib.hid (Ext.refl _)⟩
  case round =>
    obtain ⟨k, hk, rfl, HQ, HX⟩ := hrel
    have HB1 := Lib.hid (HB.out.ext HX.out)
    have y2 := HB1.out.cell 2 _ rfl
    have yl := HB1.out.lt
    by_cases hlt : k < l.length
    case pos =>
      have ik : (k : Int) < (l.length : Int) := by omega
      have HRX := Lib.hid (HRS.out.ext (HX0.out.trans HX.out))
      obtain ⟨b, off, rfl, hbw, hcell⟩ := HRX.out.2.2 (by omega)
      have ck := hcell k hlt
      clear hcell
      have CM := Lib.hid (CMM.out (l.getD k ByteArray.empty) (HSZ.out k hlt))
      have HPL : Hid ((rmP false 124 (l.getD k ByteArray.empty).data.toList).length ≤ 100000) := Lib.hid (by
        have h1 := HSZ.out k hlt
        have h3 : (l.getD k ByteArray.empty).data.toList.length = (l.getD k ByteArray.empty).size := by simp
        unfold rmP
        cases h2 : rmTo false 124 (l.getD k ByteArray.empty).data.toList (l.getD k ByteArray.empty).data.toList.length with
        | none => simp
        | some q => have := rmTo_bd h2; simp only [Option.getD_some]; omega)
      have HIK := Lib.hid (HIT.out k hlt)
      have HNX : Hid (rmW false 124 (l.getD k ByteArray.empty).data.toList ≠ s.data.toList → ∀ q, q < k + 1 → rmW false 124 (l.getD q ByteArray.empty).data.toList ≠ s.data.toList) := Lib.hid fun h q hq => by
        rcases Nat.lt_or_ge q k with h9 | h9
        · exact HQ.out q h9
        · obtain rfl : q = k := by omega
          exact h
      unfold RetRM at CM
      generalize l.getD k ByteArray.empty = t at *
      generalize rmW false 124 t.data.toList = x at *
      generalize rmP false 124 t.data.toList = ps at *
      generalize rmB false 124 t.data.toList = ok at *
      clear CMM HSZ HIT HMS HQ
      by_cases hx : x = s.data.toList
      case pos =>
        -- BEGIN A
        have hst : s = strL x := by rw [hx, strL_of]
        have e0 : ((strL x).toList == s.toList) = true := by rw [hst]; exact str_eq_true _
        have HE := Lib.hid (HIK.out hx)
        clear hx hst HIK HNX
        go_wp2_with (first | (go_at_call 65; refine Calls.mono (CM.out _) ?_; rintro e w1 ⟨v1, rfl, ho1, hx1⟩; obtain ⟨A9, c9, rfl, hc9, hr9⟩ := Own.form ho1 (by have := HPL.out; omega); have HX1 := Lib.hid hx1; have HO1 := Lib.hid ho1; clear ho1 hx1 hc9 hr9))
        go_ret
        refine ⟨_, rfl, ?_, HX0.out.trans (HX.out.trans HX1.out)⟩
        rw [HE.out]
        exact ownI_mono HO1.out (Nat.le_trans HX0.out.size HX.out.size)
        -- END A
      case neg =>
        -- BEGIN B
        have e0 : ((strL x).toList == s.toList) = false := str_eq_false (fun e => hx (by rw [← e]; rfl))
        have HN2 := Lib.hid (HNX.out hx)
        clear hx HIK HNX
        go_wp2_with (first | (go_at_call 65; refine Calls.mono (CM.out _) ?_; rintro e w1 ⟨v1, rfl, ho1, hx1⟩; obtain ⟨A9, c9, rfl, hc9, hr9⟩ := Own.form ho1 (by have := HPL.out; omega); have HX1 := Lib.hid hx1; have HO1 := Lib.hid ho1; clear ho1 hx1 hc9 hr9))
        go_roundw
        case rel => exact ⟨k + 1, by omega, by go_num, HN2, Lib.hid (HX.out.trans HX1.out)⟩
        case measure => simp [intOf]; omega
        -- END B
    case neg =>
      -- BEGIN C
      obtain rfl : k = l.length := by omega
      have ik : ¬ (l.length : Int) < (l.length : Int) := by omega
      have HE := Lib.hid (HMS.out HQ.out)
      clear HIT HMS HQ CMM
      go_wp2
      go_ret
      exact ⟨_, rfl, by rw [HE.out]; exact Own.nil _ _, HX0.out.trans HX.out⟩
      -- END C
end Go.Proofs.YtccdnieoaejgdaaGreatDoor
namespace Go.Proofs.YtccdnieoaejgdaaGreatDoor

def letL (w : List UInt8) : Bool := w.all fun b => letC b.toNat
theorem smC_low (b : UInt8) : smC ((lowB b).toNat : Int) = letC (b.toNat : Int) := by
  have hb := b.toNat_lt
  unfold lowB letC smC
  by_cases h : 65 ≤ b.toNat ∧ b.toNat ≤ 90
  · rw [if_pos h]
    have h1 : (b + 32).toNat = b.toNat + 32 := by
      rw [UInt8.toNat_add]; have : (32 : UInt8).toNat = 32 := rfl; omega
    rw [h1, decide_eq_true (by omega : (97 : Int) ≤ ((b.toNat + 32 : Nat) : Int)), decide_eq_true (by omega : ((b.toNat + 32 : Nat) : Int) ≤ 122), decide_eq_true (by omega : (65 : Int) ≤ (b.toNat : Int)), decide_eq_true (by omega : (b.toNat : Int) ≤ 90)]
    simp
  · rw [if_neg h]
    have h2 : (decide ((65 : Int) ≤ (b.toNat : Int)) && decide ((b.toNat : Int) ≤ 90)) = false := by
      rw [Bool.and_eq_false_iff, decide_eq_false_iff_not, decide_eq_false_iff_not]; omega
    rw [h2, Bool.or_false]
theorem low_small (w : List UInt8) : smallL (low w) = letL w := by
  unfold smallL low letL
  rw [List.all_map]
  congr 1; funext b; exact smC_low b
theorem hyRw_word (r : RU) {w : List UInt8} (h : 1 ≤ w.length ∧ w.length ≤ 30) : hyRw r w = match excLook r (low w) with | some l => l | none => if letL w = true then oddTo (lvOf r w) (w.length + 1) else [] := by
  unfold hyRw smWord
  rw [strL_list, strL_size, low_len, low_small, decide_eq_true h.1, decide_eq_true h.2]
  simp only [Bool.and_self, Bool.and_true]
  cases excLook r (low w) <;> rfl
theorem mkLook_step {lt : Bool} {m : UInt8} {l : List ByteArray} {w : List UInt8} {k : Nat} {n : Nat} (h : mkBad lt m l n = none) (hk : k < n) :
    mkLook lt m l (k + 1) w = if rmW lt m (l.getD k ByteArray.empty).data.toList = w then some (rmP lt m (l.getD k ByteArray.empty).data.toList) else mkLook lt m l k w := by
  rw [mkLook, mkBad_get n h hk]
  simp only
  by_cases e : w = rmW lt m (l.getD k ByteArray.empty).data.toList
  · rw [if_pos e, if_pos e.symm]
  · rw [if_neg e, if_neg (fun h => e h.symm)]

/-- A text cut at a byte: the parts that are closed by the first n bytes, and the last one. -/
def cutTo (l : List UInt8) (m : UInt8) : Nat → List (List UInt8) × List UInt8
  | 0 => ([], [])
  | n + 1 => if l.getD n 0 = m then ((cutTo l m n).1 ++ [(cutTo l m n).2], []) else ((cutTo l m n).1, (cutTo l m n).2 ++ [l.getD n 0])
def cutL (l : List UInt8) (m : UInt8) : List (List UInt8) := (cutTo l m l.length).1 ++ [(cutTo l m l.length).2]
theorem take_snoc8 {l : List UInt8} {n : Nat} (h : n < l.length) : l.take (n + 1) = l.take n ++ [l.getD n 0] := by
  rw [List.take_succ_eq_append_getElem h, List.getD_eq_getElem?_getD, List.getElem?_eq_getElem h]; rfl
theorem cutTo_join (l : List UInt8) (m : UInt8) : ∀ n, n ≤ l.length → (cutTo l m n).1.flatten ++ (cutTo l m n).2 = (l.take n).filter (fun b => decide (b ≠ m))
  | 0, _ => by simp [cutTo]
  | n + 1, h => by
    rw [take_snoc8 h, List.filter_append, ← cutTo_join l m n (by omega), cutTo]
    by_cases e : l.getD n 0 = m
    · rw [if_pos e, e]; simp
    · rw [if_neg e, List.filter_cons, if_pos (by simpa using e)]; simp
theorem cutTo_len (l : List UInt8) (m : UInt8) : ∀ n, n ≤ l.length → (cutTo l m n).1.length = (l.take n).count m
  | 0, _ => by simp [cutTo]
  | n + 1, h => by
    rw [take_snoc8 h, List.count_append, ← cutTo_len l m n (by omega), cutTo]
    by_cases e : l.getD n 0 = m
    · rw [if_pos e, e]; simp
    · have h1 : ([l.getD n 0] : List UInt8).count m = 0 := by rw [List.count_eq_zero, List.mem_singleton]; exact fun h => e h.symm
      rw [if_neg e, h1]; rfl
theorem cutL_join (l : List UInt8) (m : UInt8) : (cutL l m).flatten = l.filter (fun b => decide (b ≠ m)) := by
  have h := cutTo_join l m l.length (Nat.le_refl _)
  rw [List.take_length] at h
  unfold cutL; rw [List.flatten_append, ← h]; simp
theorem cutL_len (l : List UInt8) (m : UInt8) : (cutL l m).length = l.count m + 1 := by
  have h := cutTo_len l m l.length (Nat.le_refl _)
  rw [List.take_length] at h
  unfold cutL; rw [List.length_append, h]; rfl
theorem insL_filter (w : List UInt8) : ∀ zs : List Int, (insL w zs).filter (fun b => decide (b ≠ (45 : UInt8))) = w.filter (fun b => decide (b ≠ (45 : UInt8)))
  | [] => rfl
  | p :: zs => by
    rw [insL, List.filter_append, List.filter_cons, if_neg (by simp), ← List.filter_append, List.take_append_drop, insL_filter w zs]
theorem insL_count (w : List UInt8) : ∀ zs : List Int, (insL w zs).count 45 = w.count 45 + zs.length
  | [] => rfl
  | p :: zs => by
    have h := insL_count w zs
    rw [insL, List.count_append, List.count_cons, ← Nat.add_assoc, ← List.count_append, List.take_append_drop, h, List.length_cons]
    simp; omega
theorem filter_none {w : List UInt8} {m : UInt8} (h : w.count m = 0) : w.filter (fun b => decide (b ≠ m)) = w := by
  rw [List.filter_eq_self]
  intro b hb
  rw [List.count_eq_zero] at h
  exact decide_eq_true (fun e => h (e ▸ hb))
/-- **What is hyphened is the word, but for its hyphens.** -/
theorem hyphened_law {w : List UInt8} (zs : List Int) (h : (cutL w 45).length ≤ 1) : (cutL (insL w zs) 45).flatten = w ∧ (cutL (insL w zs) 45).length = zs.length + 1 := by
  rw [cutL_len] at h
  have h0 : w.count 45 = 0 := by omega
  rw [cutL_join, cutL_len, insL_filter, insL_count, filter_none h0]
  exact ⟨rfl, by omega⟩
end Go.Proofs.YtccdnieoaejgdaaGreatDoor
namespace Go.Proofs.YtccdnieoaejgdaaGreatDoor
open Go.RowKit Go.Lib

theorem cutTo_bd (l : List UInt8) (m : UInt8) : ∀ n, (cutTo l m n).1.length ≤ n
  | 0 => by simp [cutTo]
  | n + 1 => by
    have := cutTo_bd l m n
    rw [cutTo]; split
    · simp; omega
    · simp only; omega
set_option maxRecDepth 100000 in
set_option maxHeartbeats 4000000 in
theorem cut_any (s : ByteArray) (m : UInt8) (mz : Int) (hm : mz = (m.toNat : Int)) (w : World) (hs : s.size ≤ 100000) :
    Calls Tryz.prog 22 #[.string s, .int .u8 mz] w (RetW (cutL s.data.toList m) w) := by
  obtain ⟨l, hl⟩ : ∃ l, l = s.data.toList := ⟨_, rfl⟩
  rw [← hl]
  have HL : Hid (l.length = s.size) := Lib.hid (by rw [hl]; simp)
  have HBY : Hid (∀ k (h : k < s.size), (s[k].toNat : Int) = bya l k) := Lib.hid (fun k h => by rw [hl]; exact bya_byte s k h)
  have HCU : Hid (∀ a b, s.extract a b = strL ((l.take b).drop a)) := Lib.hid (fun a b => bytes_ext (by rw [strL_list, hl]; exact cut_list s a b))
  have HM := Lib.hid hm
  clear hl hm
  have hsz : s.size ≤ 9223372036854775807 := by omega
  go_enter Tryz.func22, Tryz.ntmps22
  go_upto_region 4 with fail
  go_loopw [5, 6, 7] (fun v5 v6 v7 wr => ∃ k fr : Nat, k ≤ s.size ∧ fr ≤ k ∧ v6 = .int .i64 (fr : Int) ∧ v7 = .int .i64 (k : Int) ∧ Hid ((cutTo l m k).2 = (l.take k).drop fr) ∧ Hid (OwnW wr w.heap.size v5 (cutTo l m k).1) ∧ Hid (Ext w wr)) (fun _ _ v7 _ => s.size - (intOf v7).toNat)
  case atStart => exact ⟨0, 0, Nat.zero_le _, Nat.le_refl _, rfl, rfl, Lib.hid rfl, Lib.hid (OwnW.nil _ _), Lib.hid (Ext.refl _)⟩
  case round =>
    obtain ⟨k, fr, hk, hfr, rfl, rfl, HC, HO, HX⟩ := hrel
    have HBD := Lib.hid (cutTo_bd l m k)
    have hkf : (fr : Int) ≤ (k : Int) := by omega
    have hks : (k : Int) ≤ (s.size : Int) := by omega
    have hcu := HCU.out fr k
    by_cases hlt : k < s.size
    case pos =>
      have ik : (k : Int) < (s.size : Int) := by omega
      have HB := Lib.hid (HBY.out k hlt)
      have HN : Hid (cutTo l m (k + 1) = if l.getD k 0 = m then ((cutTo l m k).1 ++ [(cutTo l m k).2], []) else ((cutTo l m k).1, (cutTo l m k).2 ++ [l.getD k 0])) := Lib.hid rfl
      have HTK : Hid (l.take (k + 1) = l.take k ++ [l.getD k 0]) := Lib.hid (take_snoc8 (by rw [HL.out]; exact hlt))
      generalize hx : (s[k].toNat : Int) = ch at *
      by_cases he : ch = mz
      case pos =>
        have HE : Hid (l.getD k 0 = m) := Lib.hid (UInt8.toNat_inj.1 (by have h := HB.out; unfold bya at h; rw [he, HM.out] at h; omega))
        rw [← HC.out] at hcu
        have HN2 : Hid (cutTo l m (k + 1) = ((cutTo l m k).1 ++ [(cutTo l m k).2], [])) := Lib.hid (by rw [HN.out, if_pos HE.out])
        have HC2 : Hid ([] = (l.take (k + 1)).drop (k + 1)) := Lib.hid (by rw [List.drop_of_length_le (by simp [List.length_take]; omega)])
        have u1 : IntKind.i64.wrap ((k : Int) + 1) = (k : Int) + 1 := IntWalk.i64_in _ (by omega)
        clear HN HC HB HE
        generalize (cutTo l m k).1 = ps at *
        generalize (cutTo l m k).2 = cur at *
        subst he
        go_upto_region 8 with (first | (at_builtin; refine list_pushW rfl (.tmp 19) (.tmp 24) rfl w.heap.size _ ps rfl (HO.out.ext (by repeat (first | exact Ext.refl _ | assumption | refine Ext.alloc ?_ _ | refine Ext.drew ?_ | refine Ext.drewN ?_ _ | (refine Ext.setCell ?_ (by simp <;> omega) _) | refine Ext.trans ?_ (by assumption)))) wr.heap.size cur rfl (by simp) (by have := HBD.out; omega) (by have := HX.out.size; simp; omega) ?_; intro v' w4 ho hg; have HO4 := Lib.hid ho; have HX4 : Hid (Ext w w4) := Lib.hid (OwnW.extg hg (HX.out.trans (by repeat (first | exact Ext.refl _ | assumption | refine Ext.alloc ?_ _ | refine Ext.drew ?_ | refine Ext.drewN ?_ _ | (refine Ext.setCell ?_ (by simp <;> omega) _) | refine Ext.trans ?_ (by assumption)))) (HO.out.ext (by repeat (first | exact Ext.refl _ | assumption | refine Ext.alloc ?_ _ | refine Ext.drew ?_ | refine Ext.drewN ?_ _ | (refine Ext.setCell ?_ (by simp <;> omega) _) | refine Ext.trans ?_ (by assumption))))); clear ho hg))
        go_wp2
        go_roundw
        case rel => exact ⟨k + 1, k + 1, by omega, Nat.le_refl _, by go_num, by go_num, Lib.hid (by rw [HN2.out]; exact HC2.out), Lib.hid (by rw [HN2.out]; exact HO4.out), HX4⟩
        case measure => simp [intOf]; omega
      case neg =>
        have HE : Hid (l.getD k 0 ≠ m) := Lib.hid (fun h => he (by rw [HB.out, HM.out]; unfold bya; rw [h]))
        have HN2 : Hid ((cutTo l m (k + 1)).1 = (cutTo l m k).1 ∧ (cutTo l m (k + 1)).2 = (l.take (k + 1)).drop fr) := Lib.hid (by
          rw [HN.out, if_neg HE.out]
          refine ⟨rfl, ?_⟩
          simp only
          rw [HC.out, HTK.out, List.drop_append_of_le_length (by rw [List.length_take, HL.out]; omega)])
        clear HN HTK HB HE hcu
        go_wp2
        go_roundw
        case rel => exact ⟨k + 1, fr, by omega, by omega, rfl, by go_num, Lib.hid HN2.out.2, Lib.hid (by rw [HN2.out.1]; exact HO.out), HX⟩
        case measure => simp [intOf]; omega
    case neg =>
      obtain rfl : k = s.size := by omega
      have ik : ¬ (s.size : Int) < (s.size : Int) := by omega
      rw [← HC.out] at hcu
      have HR : Hid (cutL l m = (cutTo l m s.size).1 ++ [(cutTo l m s.size).2]) := Lib.hid (by unfold cutL; rw [HL.out])
      generalize cutL l m = out at *
      generalize (cutTo l m s.size).1 = ps at *
      generalize (cutTo l m s.size).2 = cur at *
      clear HC
      go_wp2_with (first | (at_builtin; refine list_pushW rfl (.tmp 28) (.tmp 32) rfl w.heap.size _ ps rfl (HO.out.ext (by repeat (first | exact Ext.refl _ | assumption | refine Ext.alloc ?_ _ | refine Ext.drew ?_ | refine Ext.drewN ?_ _ | (refine Ext.setCell ?_ (by simp <;> omega) _) | refine Ext.trans ?_ (by assumption)))) wr.heap.size cur rfl (by simp) (by have := HBD.out; omega) (by have := HX.out.size; simp; omega) ?_; intro v' w4 ho hg; have HO4 := Lib.hid ho; have HX4 : Hid (Ext w w4) := Lib.hid (OwnW.extg hg (HX.out.trans (by repeat (first | exact Ext.refl _ | assumption | refine Ext.alloc ?_ _ | refine Ext.drew ?_ | refine Ext.drewN ?_ _ | (refine Ext.setCell ?_ (by simp <;> omega) _) | refine Ext.trans ?_ (by assumption)))) (HO.out.ext (by repeat (first | exact Ext.refl _ | assumption | refine Ext.alloc ?_ _ | refine Ext.drew ?_ | refine Ext.drewN ?_ _ | (refine Ext.setCell ?_ (by simp <;> omega) _) | refine Ext.trans ?_ (by assumption))))); clear ho hg))
      go_ret
      exact ⟨_, rfl, by rw [HR.out]; exact HO4.out, HX4.out⟩
end Go.Proofs.YtccdnieoaejgdaaGreatDoor
namespace Go.Proofs.YtccdnieoaejgdaaGreatDoor
open Go.RowKit
/-- Whether a list has a number. -/
def hasTo (zs : List Int) (x : Int) : Nat → Bool
  | 0 => false
  | k + 1 => hasTo zs x k || decide (zs.getD k 0 = x)
theorem hasTo_iff (zs : List Int) (x : Int) : ∀ k, hasTo zs x k = true ↔ ∃ i, i < k ∧ zs.getD i 0 = x
  | 0 => by simp [hasTo]
  | k + 1 => by
    rw [hasTo, Bool.or_eq_true, hasTo_iff zs x k, decide_eq_true_eq]
    constructor
    · rintro (⟨i, h1, h2⟩ | h)
      · exact ⟨i, by omega, h2⟩
      · exact ⟨k, by omega, h⟩
    · rintro ⟨i, h1, h2⟩
      rcases Nat.lt_or_ge i k with h3 | h3
      · exact .inl ⟨i, h3, h2⟩
      · obtain rfl : i = k := by omega
        exact .inr h2
def hasB (zs : List Int) (x : Int) : Bool := hasTo zs x zs.length
theorem hasB_iff {zs : List Int} {x : Int} : hasB zs x = true ↔ x ∈ zs := by
  unfold hasB
  rw [hasTo_iff, List.mem_iff_getElem]
  constructor
  · rintro ⟨i, h1, h2⟩
    refine ⟨i, h1, ?_⟩
    rw [List.getD_eq_getElem?_getD, List.getElem?_eq_getElem h1] at h2; exact h2
  · rintro ⟨i, h1, h2⟩
    refine ⟨i, h1, ?_⟩
    rw [List.getD_eq_getElem?_getD, List.getElem?_eq_getElem h1]; exact h2
theorem hasB_hit {zs : List Int} {x : Int} {k : Nat} (hk : k < zs.length) (h : zs.getD k 0 = x) : hasB zs x = true := (hasTo_iff zs x zs.length).2 ⟨k, hk, h⟩
theorem hasB_none {zs : List Int} {x : Int} (h : ∀ k, k < zs.length → zs.getD k 0 ≠ x) : hasB zs x = false := by
  rw [← Bool.not_eq_true]
  intro h1
  obtain ⟨i, h2, h3⟩ := (hasTo_iff zs x zs.length).1 h1
  exact h i h2 h3
set_option maxRecDepth 100000 in
set_option maxHeartbeats 4000000 in
theorem has_any (X : Option Addr) (c : Nat) (zs : List Int) (x : Int) (w : World) (h : RI w X zs.length zs) : Calls Tryz.prog 58 #[.slice X zs.length c, .int .i64 x] w (Ret (.bool (hasB zs x)) w) := by
  have hbig := h.big
  have HR := Lib.hid h; clear h
  have HV1 := Lib.hid (fun k => hasB_hit (zs := zs) (x := x) (k := k))
  have HV0 := Lib.hid (hasB_none (zs := zs) (x := x))
  generalize hasB zs x = V at *
  go_enter Tryz.func58, Tryz.ntmps58
  go_wp2
  go_loopw [5] (fun j wr => ∃ k : Nat, k ≤ zs.length ∧ j = .int .i64 (k : Int) ∧ w = wr ∧ Hid (∀ q, q < k → zs.getD q 0 ≠ x)) (fun j _ => zs.length - (intOf j).toNat)
  case atStart => exact ⟨0, Nat.zero_le _, rfl, rfl, Lib.hid (fun q hq => absurd hq (by omega))⟩
  case round =>
    obtain ⟨k, hk, rfl, rfl, H0⟩ := hrel
    by_cases hlt : k < zs.length
    case neg =>
      obtain rfl : k = zs.length := by omega
      have i1 : ¬ (zs.length : Int) < (zs.length : Int) := by omega
      have hv := HV0.out H0.out
      subst hv
      go_wp2
      go_ret
      exact Ret.mk' rfl (by repeat (first | exact Ext.refl _ | assumption | refine Ext.alloc ?_ _ | refine Ext.drew ?_ | refine Ext.drewN ?_ _ | (refine Ext.setCell ?_ (by simp <;> omega) _) | refine Ext.trans ?_ (by assumption)))
    case pos =>
      have i1 : (k : Int) < (zs.length : Int) := by omega
      obtain ⟨b, off, rfl, hbw, hcell⟩ := HR.out.2.2 (by omega)
      have ck := hcell k hlt
      have HHK := Lib.hid (fun h => HV1.out k hlt h)
      have HNX : Hid (zs.getD k 0 ≠ x → ∀ q, q < k + 1 → zs.getD q 0 ≠ x) := Lib.hid fun h q hq => by
        rcases Nat.lt_or_ge q k with h9 | h9
        · exact H0.out q h9
        · obtain rfl : q = k := by omega
          exact h
      clear hcell H0 HV1 HV0
      generalize zs.getD k 0 = y at *
      by_cases hb : y = x
      case pos =>
        have hv := HHK.out hb
        have e0 : (y == x) = true := by rw [beq_iff_eq]; exact hb
        subst hv
        clear hb
        go_wp2
        go_ret
        exact Ret.mk' rfl (by repeat (first | exact Ext.refl _ | assumption | refine Ext.alloc ?_ _ | refine Ext.drew ?_ | refine Ext.drewN ?_ _ | (refine Ext.setCell ?_ (by simp <;> omega) _) | refine Ext.trans ?_ (by assumption)))
      case neg =>
        have e0 : (y == x) = false := by rw [beq_eq_false_iff_ne]; exact hb
        have HN2 := Lib.hid (HNX.out hb)
        clear hb
        go_wp2
        go_roundw
        case rel => exact ⟨k + 1, by omega, by go_num, by trivial, HN2⟩
        case measure => simp [intOf] <;> omega
end Go.Proofs.YtccdnieoaejgdaaGreatDoor
