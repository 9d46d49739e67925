/-
  Walk: a word is set (the reference's set).
-/
import Derived.Test.YtccdnieoaejgdaaGreatDoorT2CA
import Derived.Test.YtccdnieoaejgdaaGreatDoorT2BA
set_option linter.unusedVariables false
set_option linter.unusedSimpArgs false
set_option linter.unusedSectionVars false
namespace Go.Proofs.YtccdnieoaejgdaaGreatDoor
open Go.RowKit Go.Lib
attribute [local go_sem] stateAt vu known List.map_cons List.map_nil Option.getD_some

/-- The best of the first k sorts. -/
def bestK (ss : List TS) (bz : List Int) (a : Nat) (l : List UInt8) (k : Nat) : Int × Int := bestL ss bz a (begTo ss (l.drop a) k)
theorem bestK_next {ss : List TS} {bz : List Int} {a : Nat} {l : List UInt8} {k : Nat} (hk : k < ss.length) :
    bestK ss bz a l (k + 1) = if mayB ss l bz a k = true ∧ (bestK ss bz a l k).2 < (txN ss k : Int) then ((k : Int), (txN ss k : Int)) else bestK ss bz a l k := by
  unfold bestK mayB
  rw [begTo]
  by_cases hf : fitB (ss.getD k TS.zero) (l.drop a) = true
  · rw [dif_pos ⟨hk, hf⟩, bestL_snoc]
    simp only [hf, Bool.true_and]
    unfold bestS
    by_cases hb : barIn bz a (txN ss k) = false
    · rw [hb]; simp
    · have hb : barIn bz a (txN ss k) = true := by simpa using hb
      rw [hb]; simp
  · rw [dif_neg (fun h => hf h.2)]
    have hf : fitB (ss.getD k TS.zero) (l.drop a) = false := by simpa using hf
    rw [hf]; simp
theorem bestK_bd {ss : List TS} {bz : List Int} {a : Nat} {l : List UInt8} {k : Nat} :
    bestK ss bz a l k = (-1, 0) ∨ (∃ j, j < ss.length ∧ bestK ss bz a l k = ((j : Int), (txN ss j : Int)) ∧ a + txN ss j ≤ max a l.length ∧ 1 ≤ txN ss j) := by
  have h := bestL_bd ss bz a (begTo ss (l.drop a) k) (-1, 0) (.inl ⟨rfl, rfl⟩)
  rcases h with h | ⟨i, h1, h2, h3⟩
  · exact .inl (Prod.ext h.1 h.2)
  · refine .inr ⟨i.1, i.2.1, h1, ?_, h2⟩
    have h4 := fitB_len i.2.2
    rw [List.length_drop] at h4
    unfold txN at h2 ⊢
    omega
theorem bestK_all (ss : List TS) (bz : List Int) (a : Nat) (l : List UInt8) : bestK ss bz a l ss.length = bestAt ss l bz a := rfl
theorem may_one {ss : List TS} {l : List UInt8} {bz : List Int} {a k : Nat} (ht : (ss.getD k TS.zero).kind ≠ 3 → 1 ≤ txN ss k) (h : mayB ss l bz a k = true) : 1 ≤ txN ss k := by
  refine ht (fun h3 => ?_)
  rw [may_kind h3] at h; cases h
set_option maxRecDepth 100000 in
set_option maxHeartbeats 4000000 in
theorem rSet_any (f : FT) (A : Option Addr) (c : Nat) (s : ByteArray) (B : Option Addr) (bc : Nat) (bz : List Int) (w : World) (hf : FR w A c f) (hz : s.size ≤ 1000000) (hb : RI w B bz.length bz)
    (ht : ∀ k, k < f.sorts.length → txN f.sorts k ≤ 1000000 ∧ ((f.sorts.getD k TS.zero).kind ≠ 3 → 1 ≤ txN f.sorts k)) :
    Calls Tryz.prog 76 #[f.val A c, .string s, .slice B bz.length bc] w (RetSB (setOf f.sorts s.data.toList bz) w) := by
  obtain ⟨l, hl⟩ : ∃ l, l = s.data.toList := ⟨_, rfl⟩
  have HLL : Hid (l.length = s.size) := Lib.hid (by rw [hl]; simp)
  have CMM := Lib.hid fun W a i (h : Ext w W) (h1 : a ≤ s.size) (h2 : i < f.sorts.length) => rMay_any f A c s B bc bz a i W (hf.ext h) hz (hb.ext h) h1 h2 (ht i h2).1
  rw [← hl] at CMM ⊢
  clear hl
  have HTT := Lib.hid ht; clear ht hb
  obtain ⟨name, body, ss⟩ := f
  have HRT := Lib.hid hf.rt
  clear hf
  simp only at HRT HTT CMM ⊢
  unfold FT.val at CMM ⊢
  simp only at CMM ⊢
  have hsb : ss.length ≤ 9223372036854775807 := HRT.out.2.1
  go_enter Tryz.func76, Tryz.ntmps76
  go_upto_region 3 with fail
  have HB := Lib.hid (Blk.new w 42 #[.string name, .int .i64 body, .slice A ss.length c])
  have HX0 : Hid (Ext w (w.alloc (.cells #[.string name, .int .i64 body, .slice A ss.length c] 42))) := Lib.hid ((Ext.refl w).alloc _)
  generalize w.alloc (.cells #[.string name, .int .i64 body, .slice A ss.length c] 42) = w0 at *
  go_loopw [8, 9] (fun v8 v9 wr => ∃ (q a : Nat) (zs : List Int), a ≤ s.size ∧ v9 = .int .i64 (a : Int) ∧ Hid (setSt ss l bz q = some (a, zs)) ∧ Hid (Own wr w0.heap.size v8 zs) ∧ Hid (Ext w0 wr)) (fun _ v9 _ => s.size - (intOf v9).toNat)
  case atStart => exact ⟨0, 0, [], Nat.zero_le _, rfl, Lib.hid rfl, Lib.hid (Own.nil _ _), Lib.hid (Ext.refl _)⟩
  case round =>
    obtain ⟨q, a, zs, ha, rfl, HST, HO, HX1⟩ := hrel
    have HZL : Hid (zs.length ≤ 1000000) := Lib.hid (by have := (setSt_bd HST.out).2.1; omega)
    by_cases hlt : a < s.size
    case pos =>
      have ia : (a : Int) < (s.size : Int) := by omega
      have HNX := Lib.hid (setSt_next HST.out (by rw [HLL.out]; exact hlt))
      have HON := Lib.hid (setOf_none HST.out (by rw [HLL.out]; exact hlt))
      have HKB := Lib.hid fun k => bestK_bd (ss := ss) (bz := bz) (a := a) (l := l) (k := k)
      have HKN := Lib.hid fun k (h : k < ss.length) => bestK_next (ss := ss) (bz := bz) (a := a) (l := l) h
      have HKA := Lib.hid (bestK_all ss bz a l)
      have HKO := Lib.hid fun k (h : k < ss.length) => may_one (l := l) (bz := bz) (a := a) (HTT.out k h).2
      have HK0 : Hid (bestK ss bz a l 0 = (-1, 0)) := Lib.hid rfl
      obtain ⟨wo, hwo⟩ : ∃ wo, wo = wr := ⟨_, rfl⟩
      rw [← hwo] at HO HX1 ⊢
      clear hwo
      go_upto_region 6 with fail
      generalize bestK ss bz a l = F at *
      go_loopw [10, 11] (fun v10 v11 wr => ∃ k : Nat, k ≤ ss.length ∧ v10 = .int .i64 (F k).1 ∧ v11 = .int .i64 (k : Int) ∧ Hid (Ext wo wr)) (fun _ v11 _ => ss.length - (intOf v11).toNat)
      case atStart => exact ⟨0, Nat.zero_le _, by rw [HK0.out], rfl, Lib.hid (Ext.refl _)⟩
      case round =>
        obtain ⟨k, hk, rfl, rfl, HX2⟩ := hrel
        have HB1 := Lib.hid (HB.out.ext (HX1.out.trans HX2.out))
        have HXW := Lib.hid ((HX0.out.trans HX1.out).trans HX2.out)
        have HKBk := Lib.hid (HKB.out k)
        by_cases hkt : k < ss.length
        case pos =>
          have ik : (k : Int) < (ss.length : Int) := by omega
          have u1 : IntKind.i64.wrap ((k : Int) + 1) = (k : Int) + 1 := IntWalk.i64_in _ (by omega)
          have HKNk := Lib.hid (HKN.out k hkt)
          have HKOk := Lib.hid (HKO.out k hkt)
          have CM := Lib.hid fun W (h : Ext wr W) => CMM.out W a k (HXW.out.trans h) ha hkt
          have HRX := Lib.hid (HRT.out.ext HXW.out)
          obtain ⟨g, off, rfl, hgw, hcell⟩ := HRX.out.2.2 (by omega)
          have HCL := Lib.hid fun i (h : i < ss.length) => (hcell i h).2.1
          clear hcell
          have HTN : Hid (∀ i, txN ss i = (ss.getD i TS.zero).text.size) := Lib.hid fun _ => rfl
          have HTB := Lib.hid fun i (h : i < ss.length) => (HTT.out i h).1
          have y2 := HB1.out.cell 2 _ rfl
          have yl := HB1.out.lt
          clear HKB HKN HKO CMM HRT HRX HNX HON HK0 HKA HST
          generalize hm : mayB ss l bz a k = m at *
          clear hm
          cases m
          case false =>
            -- BEGIN A
            have HF : Hid (F (k + 1) = F k) := Lib.hid (by rw [HKNk.out, if_neg (by simp)])
            clear HKNk HKOk HKBk
            generalize hFk : (F k).1 = z at *
            go_upto_region 8 with fail
            refine wp_region_rel [some (.agg #[.string name, .int .i64 body, .slice (some ⟨g, off, none⟩) ss.length c]), some (.string s), some (.slice B bz.length bc), some (.int .i64 (a : Int)), some (.int .i64 (k : Int)), some (.bool false), some (.bool false), some undef, some undef, some undef, some undef, some undef, some undef, some undef, some undef, some undef, some undef, some undef, some undef, some undef, some undef, some undef, some undef, some undef, some undef, some undef, some (.bool false)] (fun k v W => True) wr (by kernel_rfl) (by kernel_rfl) rfl (fun k v W W' h hx => trivial) (Ext.refl _) ⟨?_, ?_, ?_, ?_, ?_, ?_, ?_, ?_, ?_, ?_, ?_, ?_, ?_, ?_, ?_, ?_, ?_, ?_, ?_, ?_, ?_, ?_, ?_, ?_, ?_, ?_, ?_, trivial⟩ ?_
            · intro U W hx hR
              clear hR
              obtain ⟨k0, k1, k2, kl⟩ := (HB1.out.ext hx).c3
              refine StepZ.go rfl ?_
              go_simp
              exact ⟨(by repeat (first | exact Ext.refl _ | assumption | refine Ext.alloc ?_ _ | refine Ext.drew ?_ | refine Ext.drewN ?_ _ | (refine Ext.setCell ?_ (by simp <;> omega) _) | refine Ext.trans ?_ (by assumption))), gives_k (by kernel_rfl)⟩
            · intro U W hx hR
              clear hR
              refine StepZ.go rfl ?_
              go_simp
              exact ⟨(by repeat (first | exact Ext.refl _ | assumption | refine Ext.alloc ?_ _ | refine Ext.drew ?_ | refine Ext.drewN ?_ _ | (refine Ext.setCell ?_ (by simp <;> omega) _) | refine Ext.trans ?_ (by assumption))), gives_k (by kernel_rfl)⟩
            · intro U W hx hR
              clear hR
              refine StepZ.go rfl ?_
              go_simp
              exact ⟨(by repeat (first | exact Ext.refl _ | assumption | refine Ext.alloc ?_ _ | refine Ext.drew ?_ | refine Ext.drewN ?_ _ | (refine Ext.setCell ?_ (by simp <;> omega) _) | refine Ext.trans ?_ (by assumption))), gives_k (by kernel_rfl)⟩
            · intro U W hx hR
              clear hR
              refine StepZ.go rfl ?_
              go_simp
              exact ⟨(by repeat (first | exact Ext.refl _ | assumption | refine Ext.alloc ?_ _ | refine Ext.drew ?_ | refine Ext.drewN ?_ _ | (refine Ext.setCell ?_ (by simp <;> omega) _) | refine Ext.trans ?_ (by assumption))), gives_k (by kernel_rfl)⟩
            · intro U W hx hR
              clear hR
              refine StepZ.go rfl ?_
              go_simp
              exact ⟨(by repeat (first | exact Ext.refl _ | assumption | refine Ext.alloc ?_ _ | refine Ext.drew ?_ | refine Ext.drewN ?_ _ | (refine Ext.setCell ?_ (by simp <;> omega) _) | refine Ext.trans ?_ (by assumption))), gives_k (by kernel_rfl)⟩
            · intro U W hx hR
              clear hR
              refine StepZ.go rfl ?_
              go_simp
              refine Calls.mono (CM.out _ hx) ?_; rintro e w1 ⟨rfl, hb⟩; exact ⟨_, rfl, hb, gives_k (by kernel_rfl)⟩
            · intro U W hx hR
              clear hR
              refine StepZ.go rfl ?_
              go_simp
              exact ⟨(by repeat (first | exact Ext.refl _ | assumption | refine Ext.alloc ?_ _ | refine Ext.drew ?_ | refine Ext.drewN ?_ _ | (refine Ext.setCell ?_ (by simp <;> omega) _) | refine Ext.trans ?_ (by assumption))), gives_k (by kernel_rfl)⟩
            · intro U W hx hR
              clear hR
              exact StepZ.off (by kernel_rfl) ⟨Ext.refl _, gives_k (by kernel_rfl)⟩
            · intro U W hx hR
              clear hR
              exact StepZ.off (by kernel_rfl) ⟨Ext.refl _, gives_k (by kernel_rfl)⟩
            · intro U W hx hR
              clear hR
              exact StepZ.off (by kernel_rfl) ⟨Ext.refl _, gives_k (by kernel_rfl)⟩
            · intro U W hx hR
              clear hR
              exact StepZ.off (by kernel_rfl) ⟨Ext.refl _, gives_k (by kernel_rfl)⟩
            · intro U W hx hR
              clear hR
              exact StepZ.off (by kernel_rfl) ⟨Ext.refl _, gives_k (by kernel_rfl)⟩
            · intro U W hx hR
              clear hR
              exact StepZ.off (by kernel_rfl) ⟨Ext.refl _, gives_k (by kernel_rfl)⟩
            · intro U W hx hR
              clear hR
              exact StepZ.off (by kernel_rfl) ⟨Ext.refl _, gives_k (by kernel_rfl)⟩
            · intro U W hx hR
              clear hR
              exact StepZ.off (by kernel_rfl) ⟨Ext.refl _, gives_k (by kernel_rfl)⟩
            · intro U W hx hR
              clear hR
              exact StepZ.off (by kernel_rfl) ⟨Ext.refl _, gives_k (by kernel_rfl)⟩
            · intro U W hx hR
              clear hR
              exact StepZ.off (by kernel_rfl) ⟨Ext.refl _, gives_k (by kernel_rfl)⟩
            · intro U W hx hR
              clear hR
              exact StepZ.off (by kernel_rfl) ⟨Ext.refl _, gives_k (by kernel_rfl)⟩
            · intro U W hx hR
              clear hR
              exact StepZ.off (by kernel_rfl) ⟨Ext.refl _, gives_k (by kernel_rfl)⟩
            · intro U W hx hR
              clear hR
              exact StepZ.off (by kernel_rfl) ⟨Ext.refl _, gives_k (by kernel_rfl)⟩
            · intro U W hx hR
              clear hR
              exact StepZ.off (by kernel_rfl) ⟨Ext.refl _, gives_k (by kernel_rfl)⟩
            · intro U W hx hR
              clear hR
              exact StepZ.off (by kernel_rfl) ⟨Ext.refl _, gives_k (by kernel_rfl)⟩
            · intro U W hx hR
              clear hR
              exact StepZ.off (by kernel_rfl) ⟨Ext.refl _, gives_k (by kernel_rfl)⟩
            · intro U W hx hR
              clear hR
              exact StepZ.off (by kernel_rfl) ⟨Ext.refl _, gives_k (by kernel_rfl)⟩
            · intro U W hx hR
              clear hR
              exact StepZ.off (by kernel_rfl) ⟨Ext.refl _, gives_k (by kernel_rfl)⟩
            · intro U W hx hR
              clear hR
              exact StepZ.off (by kernel_rfl) ⟨Ext.refl _, gives_k (by kernel_rfl)⟩
            · intro U W hx hR
              clear hR
              refine StepZ.go rfl ?_
              go_simp
              exact ⟨(by repeat (first | exact Ext.refl _ | assumption | refine Ext.alloc ?_ _ | refine Ext.drew ?_ | refine Ext.drewN ?_ _ | (refine Ext.setCell ?_ (by simp <;> omega) _) | refine Ext.trans ?_ (by assumption))), gives_k (by kernel_rfl)⟩
            · intro U W hx hR
              clear hR
              simp only [putAll, vu, Act.put, List.setIfInBounds_toArray, List.set_cons_zero, List.set_cons_succ]
              go_wp2
              go_roundw
              case rel => exact ⟨k + 1, by omega, by rw [HF.out, hFk], by go_num, Lib.hid (HX2.out.trans (hx.trans (by repeat (first | exact Ext.refl _ | assumption | refine Ext.alloc ?_ _ | refine Ext.drew ?_ | refine Ext.drewN ?_ _ | (refine Ext.setCell ?_ (by simp <;> omega) _) | refine Ext.trans ?_ (by assumption)))))⟩
              case measure => simp [intOf]; omega
            -- END A
          case true =>
            have ht1 := HKOk.out rfl
            rcases HKBk.out with hF | ⟨j, hj, hF, _, _⟩
            · -- BEGIN B
              have HF : Hid (F (k + 1) = ((k : Int), (txN ss k : Int))) := Lib.hid (by rw [HKNk.out, if_pos ⟨rfl, by rw [hF]; simp only; omega⟩])
              rw [hF]
              simp only
              clear HKNk HKOk HKBk hF
              go_upto_region 8 with fail
              refine wp_region_rel [some (.agg #[.string name, .int .i64 body, .slice (some ⟨g, off, none⟩) ss.length c]), some (.string s), some (.slice B bz.length bc), some (.int .i64 (a : Int)), some (.int .i64 (k : Int)), some (.bool true), some (.bool true), some (.int .i64 (-1)), some (.bool true), some (.bool true), some undef, some undef, some undef, some undef, some undef, some undef, some undef, some undef, some undef, some undef, some undef, some undef, some undef, some undef, some undef, some (.bool true), some (.bool true)] (fun k v W => True) wr (by kernel_rfl) (by kernel_rfl) rfl (fun k v W W' h hx => trivial) (Ext.refl _) ⟨?_, ?_, ?_, ?_, ?_, ?_, ?_, ?_, ?_, ?_, ?_, ?_, ?_, ?_, ?_, ?_, ?_, ?_, ?_, ?_, ?_, ?_, ?_, ?_, ?_, ?_, ?_, trivial⟩ ?_
              · intro U W hx hR
                clear hR
                obtain ⟨k0, k1, k2, kl⟩ := (HB1.out.ext hx).c3
                refine StepZ.go rfl ?_
                go_simp
                exact ⟨(by repeat (first | exact Ext.refl _ | assumption | refine Ext.alloc ?_ _ | refine Ext.drew ?_ | refine Ext.drewN ?_ _ | (refine Ext.setCell ?_ (by simp <;> omega) _) | refine Ext.trans ?_ (by assumption))), gives_k (by kernel_rfl)⟩
              · intro U W hx hR
                clear hR
                refine StepZ.go rfl ?_
                go_simp
                exact ⟨(by repeat (first | exact Ext.refl _ | assumption | refine Ext.alloc ?_ _ | refine Ext.drew ?_ | refine Ext.drewN ?_ _ | (refine Ext.setCell ?_ (by simp <;> omega) _) | refine Ext.trans ?_ (by assumption))), gives_k (by kernel_rfl)⟩
              · intro U W hx hR
                clear hR
                refine StepZ.go rfl ?_
                go_simp
                exact ⟨(by repeat (first | exact Ext.refl _ | assumption | refine Ext.alloc ?_ _ | refine Ext.drew ?_ | refine Ext.drewN ?_ _ | (refine Ext.setCell ?_ (by simp <;> omega) _) | refine Ext.trans ?_ (by assumption))), gives_k (by kernel_rfl)⟩
              · intro U W hx hR
                clear hR
                refine StepZ.go rfl ?_
                go_simp
                exact ⟨(by repeat (first | exact Ext.refl _ | assumption | refine Ext.alloc ?_ _ | refine Ext.drew ?_ | refine Ext.drewN ?_ _ | (refine Ext.setCell ?_ (by simp <;> omega) _) | refine Ext.trans ?_ (by assumption))), gives_k (by kernel_rfl)⟩
              · intro U W hx hR
                clear hR
                refine StepZ.go rfl ?_
                go_simp
                exact ⟨(by repeat (first | exact Ext.refl _ | assumption | refine Ext.alloc ?_ _ | refine Ext.drew ?_ | refine Ext.drewN ?_ _ | (refine Ext.setCell ?_ (by simp <;> omega) _) | refine Ext.trans ?_ (by assumption))), gives_k (by kernel_rfl)⟩
              · intro U W hx hR
                clear hR
                refine StepZ.go rfl ?_
                go_simp
                refine Calls.mono (CM.out _ hx) ?_; rintro e w1 ⟨rfl, hb⟩; exact ⟨_, rfl, hb, gives_k (by kernel_rfl)⟩
              · intro U W hx hR
                clear hR
                refine StepZ.go rfl ?_
                go_simp
                exact ⟨(by repeat (first | exact Ext.refl _ | assumption | refine Ext.alloc ?_ _ | refine Ext.drew ?_ | refine Ext.drewN ?_ _ | (refine Ext.setCell ?_ (by simp <;> omega) _) | refine Ext.trans ?_ (by assumption))), gives_k (by kernel_rfl)⟩
              · intro U W hx hR
                clear hR
                refine StepZ.go (by kernel_rfl) ?_
                go_simp
                exact ⟨(by repeat (first | exact Ext.refl _ | assumption | refine Ext.alloc ?_ _ | refine Ext.drew ?_ | refine Ext.drewN ?_ _ | (refine Ext.setCell ?_ (by simp <;> omega) _) | refine Ext.trans ?_ (by assumption))), gives_k (by kernel_rfl)⟩
              · intro U W hx hR
                clear hR
                refine StepZ.go (by kernel_rfl) ?_
                go_simp
                exact ⟨(by repeat (first | exact Ext.refl _ | assumption | refine Ext.alloc ?_ _ | refine Ext.drew ?_ | refine Ext.drewN ?_ _ | (refine Ext.setCell ?_ (by simp <;> omega) _) | refine Ext.trans ?_ (by assumption))), gives_k (by kernel_rfl)⟩
              · intro U W hx hR
                clear hR
                refine StepZ.go (by kernel_rfl) ?_
                go_simp
                exact ⟨(by repeat (first | exact Ext.refl _ | assumption | refine Ext.alloc ?_ _ | refine Ext.drew ?_ | refine Ext.drewN ?_ _ | (refine Ext.setCell ?_ (by simp <;> omega) _) | refine Ext.trans ?_ (by assumption))), gives_k (by kernel_rfl)⟩
              · intro U W hx hR
                clear hR
                exact StepZ.off (by kernel_rfl) ⟨Ext.refl _, gives_k (by kernel_rfl)⟩
              · intro U W hx hR
                clear hR
                exact StepZ.off (by kernel_rfl) ⟨Ext.refl _, gives_k (by kernel_rfl)⟩
              · intro U W hx hR
                clear hR
                exact StepZ.off (by kernel_rfl) ⟨Ext.refl _, gives_k (by kernel_rfl)⟩
              · intro U W hx hR
                clear hR
                exact StepZ.off (by kernel_rfl) ⟨Ext.refl _, gives_k (by kernel_rfl)⟩
              · intro U W hx hR
                clear hR
                exact StepZ.off (by kernel_rfl) ⟨Ext.refl _, gives_k (by kernel_rfl)⟩
              · intro U W hx hR
                clear hR
                exact StepZ.off (by kernel_rfl) ⟨Ext.refl _, gives_k (by kernel_rfl)⟩
              · intro U W hx hR
                clear hR
                exact StepZ.off (by kernel_rfl) ⟨Ext.refl _, gives_k (by kernel_rfl)⟩
              · intro U W hx hR
                clear hR
                exact StepZ.off (by kernel_rfl) ⟨Ext.refl _, gives_k (by kernel_rfl)⟩
              · intro U W hx hR
                clear hR
                exact StepZ.off (by kernel_rfl) ⟨Ext.refl _, gives_k (by kernel_rfl)⟩
              · intro U W hx hR
                clear hR
                exact StepZ.off (by kernel_rfl) ⟨Ext.refl _, gives_k (by kernel_rfl)⟩
              · intro U W hx hR
                clear hR
                exact StepZ.off (by kernel_rfl) ⟨Ext.refl _, gives_k (by kernel_rfl)⟩
              · intro U W hx hR
                clear hR
                exact StepZ.off (by kernel_rfl) ⟨Ext.refl _, gives_k (by kernel_rfl)⟩
              · intro U W hx hR
                clear hR
                exact StepZ.off (by kernel_rfl) ⟨Ext.refl _, gives_k (by kernel_rfl)⟩
              · intro U W hx hR
                clear hR
                exact StepZ.off (by kernel_rfl) ⟨Ext.refl _, gives_k (by kernel_rfl)⟩
              · intro U W hx hR
                clear hR
                exact StepZ.off (by kernel_rfl) ⟨Ext.refl _, gives_k (by kernel_rfl)⟩
              · intro U W hx hR
                clear hR
                refine StepZ.go (by kernel_rfl) ?_
                go_simp
                exact ⟨(by repeat (first | exact Ext.refl _ | assumption | refine Ext.alloc ?_ _ | refine Ext.drew ?_ | refine Ext.drewN ?_ _ | (refine Ext.setCell ?_ (by simp <;> omega) _) | refine Ext.trans ?_ (by assumption))), gives_k (by kernel_rfl)⟩
              · intro U W hx hR
                clear hR
                refine StepZ.go rfl ?_
                go_simp
                exact ⟨(by repeat (first | exact Ext.refl _ | assumption | refine Ext.alloc ?_ _ | refine Ext.drew ?_ | refine Ext.drewN ?_ _ | (refine Ext.setCell ?_ (by simp <;> omega) _) | refine Ext.trans ?_ (by assumption))), gives_k (by kernel_rfl)⟩
              · intro U W hx hR
                clear hR
                simp only [putAll, vu, Act.put, List.setIfInBounds_toArray, List.set_cons_zero, List.set_cons_succ]
                go_wp2
                go_roundw
                case rel => exact ⟨k + 1, by omega, by rw [HF.out], by go_num, Lib.hid (HX2.out.trans (hx.trans (by repeat (first | exact Ext.refl _ | assumption | refine Ext.alloc ?_ _ | refine Ext.drew ?_ | refine Ext.drewN ?_ _ | (refine Ext.setCell ?_ (by simp <;> omega) _) | refine Ext.trans ?_ (by assumption)))))⟩
                case measure => simp [intOf]; omega
              -- END B
            · have ck1 := HCL.out k hkt
              have cj1 := HCL.out j hj
              have HFN : Hid (F (k + 1) = if txN ss j < txN ss k then ((k : Int), (txN ss k : Int)) else F k) := Lib.hid (by
                rw [HKNk.out, hF]
                by_cases h : txN ss j < txN ss k
                · rw [if_pos h, if_pos ⟨rfl, by simp only; omega⟩]
                · rw [if_neg h, if_neg (fun h2 => h (by have := h2.2; simp only at this; omega))])
              have htk := HTN.out k; have htj := HTN.out j
              have hbk := HTB.out k hkt; have hbj := HTB.out j hj
              rw [htk, htj] at HFN
              rw [htk] at hbk; rw [htj] at hbj
              clear htj ht1
              generalize (ss.getD k TS.zero).text = tk at *
              generalize (ss.getD j TS.zero).text = tj at *
              have ij : (j : Int) < (ss.length : Int) := by omega
              have ij0 : ¬ (j : Int) < 0 := by omega
              rw [hF]
              simp only
              clear HKNk HKOk HKBk HCL HTN HTB
              by_cases hjk : tj.size < tk.size
              · -- BEGIN C
                have HF : Hid (F (k + 1) = ((k : Int), (txN ss k : Int))) := Lib.hid (by rw [HFN.out, if_pos hjk, htk])
                clear htk
                have ijk : (tj.size : Int) < (tk.size : Int) := by omega
                clear hF
                go_upto_region 8 with fail
                refine wp_region_rel [some (.agg #[.string name, .int .i64 body, .slice (some ⟨g, off, none⟩) ss.length c]), some (.string s), some (.slice B bz.length bc), some (.int .i64 (a : Int)), some (.int .i64 (k : Int)), some (.bool true), some (.bool true), some (.int .i64 (j : Int)), some (.bool false), some (.bool false), some (.pointer (some ⟨w.heap.size, 2, none⟩)), some (.slice (some ⟨g, off, none⟩) ss.length c), some (.int .i64 (k : Int)), some (.pointer (some ⟨g, off + k * 4, none⟩)), some (.pointer (some ⟨g, off + k * 4 + 1, none⟩)), some (.string tk), some (.int .i64 (tk.size : Int)), some (.pointer (some ⟨w.heap.size, 2, none⟩)), some (.slice (some ⟨g, off, none⟩) ss.length c), some (.int .i64 (j : Int)), some (.pointer (some ⟨g, off + j * 4, none⟩)), some (.pointer (some ⟨g, off + j * 4 + 1, none⟩)), some (.string tj), some (.int .i64 (tj.size : Int)), some (.bool true), some (.bool true), some (.bool true)] (fun k v W => True) wr (by kernel_rfl) (by kernel_rfl) rfl (fun k v W W' h hx => trivial) (Ext.refl _) ⟨?_, ?_, ?_, ?_, ?_, ?_, ?_, ?_, ?_, ?_, ?_, ?_, ?_, ?_, ?_, ?_, ?_, ?_, ?_, ?_, ?_, ?_, ?_, ?_, ?_, ?_, ?_, trivial⟩ ?_
                · intro U W hx hR
                  clear hR
                  obtain ⟨k0, k1, k2, kl⟩ := (HB1.out.ext hx).c3
                  refine StepZ.go rfl ?_
                  go_simp
                  exact ⟨(by repeat (first | exact Ext.refl _ | assumption | refine Ext.alloc ?_ _ | refine Ext.drew ?_ | refine Ext.drewN ?_ _ | (refine Ext.setCell ?_ (by simp <;> omega) _) | refine Ext.trans ?_ (by assumption))), gives_k (by kernel_rfl)⟩
                · intro U W hx hR
                  clear hR
                  refine StepZ.go rfl ?_
                  go_simp
                  exact ⟨(by repeat (first | exact Ext.refl _ | assumption | refine Ext.alloc ?_ _ | refine Ext.drew ?_ | refine Ext.drewN ?_ _ | (refine Ext.setCell ?_ (by simp <;> omega) _) | refine Ext.trans ?_ (by assumption))), gives_k (by kernel_rfl)⟩
                · intro U W hx hR
                  clear hR
                  refine StepZ.go rfl ?_
                  go_simp
                  exact ⟨(by repeat (first | exact Ext.refl _ | assumption | refine Ext.alloc ?_ _ | refine Ext.drew ?_ | refine Ext.drewN ?_ _ | (refine Ext.setCell ?_ (by simp <;> omega) _) | refine Ext.trans ?_ (by assumption))), gives_k (by kernel_rfl)⟩
                · intro U W hx hR
                  clear hR
                  refine StepZ.go rfl ?_
                  go_simp
                  exact ⟨(by repeat (first | exact Ext.refl _ | assumption | refine Ext.alloc ?_ _ | refine Ext.drew ?_ | refine Ext.drewN ?_ _ | (refine Ext.setCell ?_ (by simp <;> omega) _) | refine Ext.trans ?_ (by assumption))), gives_k (by kernel_rfl)⟩
                · intro U W hx hR
                  clear hR
                  refine StepZ.go rfl ?_
                  go_simp
                  exact ⟨(by repeat (first | exact Ext.refl _ | assumption | refine Ext.alloc ?_ _ | refine Ext.drew ?_ | refine Ext.drewN ?_ _ | (refine Ext.setCell ?_ (by simp <;> omega) _) | refine Ext.trans ?_ (by assumption))), gives_k (by kernel_rfl)⟩
                · intro U W hx hR
                  clear hR
                  refine StepZ.go rfl ?_
                  go_simp
                  refine Calls.mono (CM.out _ hx) ?_; rintro e w1 ⟨rfl, hb⟩; exact ⟨_, rfl, hb, gives_k (by kernel_rfl)⟩
                · intro U W hx hR
                  clear hR
                  refine StepZ.go rfl ?_
                  go_simp
                  exact ⟨(by repeat (first | exact Ext.refl _ | assumption | refine Ext.alloc ?_ _ | refine Ext.drew ?_ | refine Ext.drewN ?_ _ | (refine Ext.setCell ?_ (by simp <;> omega) _) | refine Ext.trans ?_ (by assumption))), gives_k (by kernel_rfl)⟩
                · intro U W hx hR
                  clear hR
                  refine StepZ.go (by kernel_rfl) ?_
                  go_simp
                  exact ⟨(by repeat (first | exact Ext.refl _ | assumption | refine Ext.alloc ?_ _ | refine Ext.drew ?_ | refine Ext.drewN ?_ _ | (refine Ext.setCell ?_ (by simp <;> omega) _) | refine Ext.trans ?_ (by assumption))), gives_k (by kernel_rfl)⟩
                · intro U W hx hR
                  clear hR
                  refine StepZ.go (by kernel_rfl) ?_
                  go_simp
                  exact ⟨(by repeat (first | exact Ext.refl _ | assumption | refine Ext.alloc ?_ _ | refine Ext.drew ?_ | refine Ext.drewN ?_ _ | (refine Ext.setCell ?_ (by simp <;> omega) _) | refine Ext.trans ?_ (by assumption))), gives_k (by kernel_rfl)⟩
                · intro U W hx hR
                  clear hR
                  refine StepZ.go (by kernel_rfl) ?_
                  go_simp
                  exact ⟨(by repeat (first | exact Ext.refl _ | assumption | refine Ext.alloc ?_ _ | refine Ext.drew ?_ | refine Ext.drewN ?_ _ | (refine Ext.setCell ?_ (by simp <;> omega) _) | refine Ext.trans ?_ (by assumption))), gives_k (by kernel_rfl)⟩
                · intro U W hx hR
                  clear hR
                  refine StepZ.go (by kernel_rfl) ?_
                  go_simp
                  exact ⟨(by repeat (first | exact Ext.refl _ | assumption | refine Ext.alloc ?_ _ | refine Ext.drew ?_ | refine Ext.drewN ?_ _ | (refine Ext.setCell ?_ (by simp <;> omega) _) | refine Ext.trans ?_ (by assumption))), gives_k (by kernel_rfl)⟩
                · intro U W hx hR
                  clear hR
                  obtain ⟨k0, k1, k2, kl⟩ := (HB1.out.ext hx).c3
                  refine StepZ.go (by kernel_rfl) ?_
                  go_simp
                  exact ⟨(by repeat (first | exact Ext.refl _ | assumption | refine Ext.alloc ?_ _ | refine Ext.drew ?_ | refine Ext.drewN ?_ _ | (refine Ext.setCell ?_ (by simp <;> omega) _) | refine Ext.trans ?_ (by assumption))), gives_k (by kernel_rfl)⟩
                · intro U W hx hR
                  clear hR
                  refine StepZ.go (by kernel_rfl) ?_
                  go_simp
                  exact ⟨(by repeat (first | exact Ext.refl _ | assumption | refine Ext.alloc ?_ _ | refine Ext.drew ?_ | refine Ext.drewN ?_ _ | (refine Ext.setCell ?_ (by simp <;> omega) _) | refine Ext.trans ?_ (by assumption))), gives_k (by kernel_rfl)⟩
                · intro U W hx hR
                  clear hR
                  refine StepZ.go (by kernel_rfl) ?_
                  go_simp
                  exact ⟨(by repeat (first | exact Ext.refl _ | assumption | refine Ext.alloc ?_ _ | refine Ext.drew ?_ | refine Ext.drewN ?_ _ | (refine Ext.setCell ?_ (by simp <;> omega) _) | refine Ext.trans ?_ (by assumption))), gives_k (by kernel_rfl)⟩
                · intro U W hx hR
                  clear hR
                  refine StepZ.go (by kernel_rfl) ?_
                  go_simp
                  exact ⟨(by repeat (first | exact Ext.refl _ | assumption | refine Ext.alloc ?_ _ | refine Ext.drew ?_ | refine Ext.drewN ?_ _ | (refine Ext.setCell ?_ (by simp <;> omega) _) | refine Ext.trans ?_ (by assumption))), gives_k (by kernel_rfl)⟩
                · intro U W hx hR
                  clear hR
                  have c9 := (hx.cell (p := ⟨g, off + k * 4 + 1, none⟩) hgw).trans ck1
                  refine StepZ.go (by kernel_rfl) ?_
                  go_simp
                  exact ⟨(by repeat (first | exact Ext.refl _ | assumption | refine Ext.alloc ?_ _ | refine Ext.drew ?_ | refine Ext.drewN ?_ _ | (refine Ext.setCell ?_ (by simp <;> omega) _) | refine Ext.trans ?_ (by assumption))), gives_k (by kernel_rfl)⟩
                · intro U W hx hR
                  clear hR
                  refine StepZ.go (by kernel_rfl) ?_
                  go_simp
                  exact ⟨(by repeat (first | exact Ext.refl _ | assumption | refine Ext.alloc ?_ _ | refine Ext.drew ?_ | refine Ext.drewN ?_ _ | (refine Ext.setCell ?_ (by simp <;> omega) _) | refine Ext.trans ?_ (by assumption))), gives_k (by kernel_rfl)⟩
                · intro U W hx hR
                  clear hR
                  refine StepZ.go (by kernel_rfl) ?_
                  go_simp
                  exact ⟨(by repeat (first | exact Ext.refl _ | assumption | refine Ext.alloc ?_ _ | refine Ext.drew ?_ | refine Ext.drewN ?_ _ | (refine Ext.setCell ?_ (by simp <;> omega) _) | refine Ext.trans ?_ (by assumption))), gives_k (by kernel_rfl)⟩
                · intro U W hx hR
                  clear hR
                  obtain ⟨k0, k1, k2, kl⟩ := (HB1.out.ext hx).c3
                  refine StepZ.go (by kernel_rfl) ?_
                  go_simp
                  exact ⟨(by repeat (first | exact Ext.refl _ | assumption | refine Ext.alloc ?_ _ | refine Ext.drew ?_ | refine Ext.drewN ?_ _ | (refine Ext.setCell ?_ (by simp <;> omega) _) | refine Ext.trans ?_ (by assumption))), gives_k (by kernel_rfl)⟩
                · intro U W hx hR
                  clear hR
                  refine StepZ.go (by kernel_rfl) ?_
                  go_simp
                  exact ⟨(by repeat (first | exact Ext.refl _ | assumption | refine Ext.alloc ?_ _ | refine Ext.drew ?_ | refine Ext.drewN ?_ _ | (refine Ext.setCell ?_ (by simp <;> omega) _) | refine Ext.trans ?_ (by assumption))), gives_k (by kernel_rfl)⟩
                · intro U W hx hR
                  clear hR
                  refine StepZ.go (by kernel_rfl) ?_
                  go_simp
                  exact ⟨(by repeat (first | exact Ext.refl _ | assumption | refine Ext.alloc ?_ _ | refine Ext.drew ?_ | refine Ext.drewN ?_ _ | (refine Ext.setCell ?_ (by simp <;> omega) _) | refine Ext.trans ?_ (by assumption))), gives_k (by kernel_rfl)⟩
                · intro U W hx hR
                  clear hR
                  refine StepZ.go (by kernel_rfl) ?_
                  go_simp
                  exact ⟨(by repeat (first | exact Ext.refl _ | assumption | refine Ext.alloc ?_ _ | refine Ext.drew ?_ | refine Ext.drewN ?_ _ | (refine Ext.setCell ?_ (by simp <;> omega) _) | refine Ext.trans ?_ (by assumption))), gives_k (by kernel_rfl)⟩
                · intro U W hx hR
                  clear hR
                  have c9 := (hx.cell (p := ⟨g, off + j * 4 + 1, none⟩) hgw).trans cj1
                  refine StepZ.go (by kernel_rfl) ?_
                  go_simp
                  exact ⟨(by repeat (first | exact Ext.refl _ | assumption | refine Ext.alloc ?_ _ | refine Ext.drew ?_ | refine Ext.drewN ?_ _ | (refine Ext.setCell ?_ (by simp <;> omega) _) | refine Ext.trans ?_ (by assumption))), gives_k (by kernel_rfl)⟩
                · intro U W hx hR
                  clear hR
                  refine StepZ.go (by kernel_rfl) ?_
                  go_simp
                  exact ⟨(by repeat (first | exact Ext.refl _ | assumption | refine Ext.alloc ?_ _ | refine Ext.drew ?_ | refine Ext.drewN ?_ _ | (refine Ext.setCell ?_ (by simp <;> omega) _) | refine Ext.trans ?_ (by assumption))), gives_k (by kernel_rfl)⟩
                · intro U W hx hR
                  clear hR
                  refine StepZ.go (by kernel_rfl) ?_
                  go_simp
                  exact ⟨(by repeat (first | exact Ext.refl _ | assumption | refine Ext.alloc ?_ _ | refine Ext.drew ?_ | refine Ext.drewN ?_ _ | (refine Ext.setCell ?_ (by simp <;> omega) _) | refine Ext.trans ?_ (by assumption))), gives_k (by kernel_rfl)⟩
                · intro U W hx hR
                  clear hR
                  refine StepZ.go (by kernel_rfl) ?_
                  go_simp
                  exact ⟨(by repeat (first | exact Ext.refl _ | assumption | refine Ext.alloc ?_ _ | refine Ext.drew ?_ | refine Ext.drewN ?_ _ | (refine Ext.setCell ?_ (by simp <;> omega) _) | refine Ext.trans ?_ (by assumption))), gives_k (by kernel_rfl)⟩
                · intro U W hx hR
                  clear hR
                  refine StepZ.go rfl ?_
                  go_simp
                  exact ⟨(by repeat (first | exact Ext.refl _ | assumption | refine Ext.alloc ?_ _ | refine Ext.drew ?_ | refine Ext.drewN ?_ _ | (refine Ext.setCell ?_ (by simp <;> omega) _) | refine Ext.trans ?_ (by assumption))), gives_k (by kernel_rfl)⟩
                · intro U W hx hR
                  clear hR
                  simp only [putAll, vu, Act.put, List.setIfInBounds_toArray, List.set_cons_zero, List.set_cons_succ]
                  go_wp2
                  go_roundw
                  case rel => exact ⟨k + 1, by omega, by rw [HF.out], by go_num, Lib.hid (HX2.out.trans (hx.trans (by repeat (first | exact Ext.refl _ | assumption | refine Ext.alloc ?_ _ | refine Ext.drew ?_ | refine Ext.drewN ?_ _ | (refine Ext.setCell ?_ (by simp <;> omega) _) | refine Ext.trans ?_ (by assumption)))))⟩
                  case measure => simp [intOf]; omega
                -- END C
              · -- BEGIN D
                clear htk
                have HF : Hid (F (k + 1) = F k) := Lib.hid (by rw [HFN.out, if_neg hjk])
                have ijk : ¬ (tj.size : Int) < (tk.size : Int) := by omega
                have HF1 : Hid ((F k).1 = (j : Int)) := Lib.hid (by rw [hF])
                clear hF
                go_upto_region 8 with fail
                refine wp_region_rel [some (.agg #[.string name, .int .i64 body, .slice (some ⟨g, off, none⟩) ss.length c]), some (.string s), some (.slice B bz.length bc), some (.int .i64 (a : Int)), some (.int .i64 (k : Int)), some (.bool true), some (.bool true), some (.int .i64 (j : Int)), some (.bool false), some (.bool false), some (.pointer (some ⟨w.heap.size, 2, none⟩)), some (.slice (some ⟨g, off, none⟩) ss.length c), some (.int .i64 (k : Int)), some (.pointer (some ⟨g, off + k * 4, none⟩)), some (.pointer (some ⟨g, off + k * 4 + 1, none⟩)), some (.string tk), some (.int .i64 (tk.size : Int)), some (.pointer (some ⟨w.heap.size, 2, none⟩)), some (.slice (some ⟨g, off, none⟩) ss.length c), some (.int .i64 (j : Int)), some (.pointer (some ⟨g, off + j * 4, none⟩)), some (.pointer (some ⟨g, off + j * 4 + 1, none⟩)), some (.string tj), some (.int .i64 (tj.size : Int)), some (.bool false), some (.bool false), some (.bool false)] (fun k v W => True) wr (by kernel_rfl) (by kernel_rfl) rfl (fun k v W W' h hx => trivial) (Ext.refl _) ⟨?_, ?_, ?_, ?_, ?_, ?_, ?_, ?_, ?_, ?_, ?_, ?_, ?_, ?_, ?_, ?_, ?_, ?_, ?_, ?_, ?_, ?_, ?_, ?_, ?_, ?_, ?_, trivial⟩ ?_
                · intro U W hx hR
                  clear hR
                  obtain ⟨k0, k1, k2, kl⟩ := (HB1.out.ext hx).c3
                  refine StepZ.go rfl ?_
                  go_simp
                  exact ⟨(by repeat (first | exact Ext.refl _ | assumption | refine Ext.alloc ?_ _ | refine Ext.drew ?_ | refine Ext.drewN ?_ _ | (refine Ext.setCell ?_ (by simp <;> omega) _) | refine Ext.trans ?_ (by assumption))), gives_k (by kernel_rfl)⟩
                · intro U W hx hR
                  clear hR
                  refine StepZ.go rfl ?_
                  go_simp
                  exact ⟨(by repeat (first | exact Ext.refl _ | assumption | refine Ext.alloc ?_ _ | refine Ext.drew ?_ | refine Ext.drewN ?_ _ | (refine Ext.setCell ?_ (by simp <;> omega) _) | refine Ext.trans ?_ (by assumption))), gives_k (by kernel_rfl)⟩
                · intro U W hx hR
                  clear hR
                  refine StepZ.go rfl ?_
                  go_simp
                  exact ⟨(by repeat (first | exact Ext.refl _ | assumption | refine Ext.alloc ?_ _ | refine Ext.drew ?_ | refine Ext.drewN ?_ _ | (refine Ext.setCell ?_ (by simp <;> omega) _) | refine Ext.trans ?_ (by assumption))), gives_k (by kernel_rfl)⟩
                · intro U W hx hR
                  clear hR
                  refine StepZ.go rfl ?_
                  go_simp
                  exact ⟨(by repeat (first | exact Ext.refl _ | assumption | refine Ext.alloc ?_ _ | refine Ext.drew ?_ | refine Ext.drewN ?_ _ | (refine Ext.setCell ?_ (by simp <;> omega) _) | refine Ext.trans ?_ (by assumption))), gives_k (by kernel_rfl)⟩
                · intro U W hx hR
                  clear hR
                  refine StepZ.go rfl ?_
                  go_simp
                  exact ⟨(by repeat (first | exact Ext.refl _ | assumption | refine Ext.alloc ?_ _ | refine Ext.drew ?_ | refine Ext.drewN ?_ _ | (refine Ext.setCell ?_ (by simp <;> omega) _) | refine Ext.trans ?_ (by assumption))), gives_k (by kernel_rfl)⟩
                · intro U W hx hR
                  clear hR
                  refine StepZ.go rfl ?_
                  go_simp
                  refine Calls.mono (CM.out _ hx) ?_; rintro e w1 ⟨rfl, hb⟩; exact ⟨_, rfl, hb, gives_k (by kernel_rfl)⟩
                · intro U W hx hR
                  clear hR
                  refine StepZ.go rfl ?_
                  go_simp
                  exact ⟨(by repeat (first | exact Ext.refl _ | assumption | refine Ext.alloc ?_ _ | refine Ext.drew ?_ | refine Ext.drewN ?_ _ | (refine Ext.setCell ?_ (by simp <;> omega) _) | refine Ext.trans ?_ (by assumption))), gives_k (by kernel_rfl)⟩
                · intro U W hx hR
                  clear hR
                  refine StepZ.go (by kernel_rfl) ?_
                  go_simp
                  exact ⟨(by repeat (first | exact Ext.refl _ | assumption | refine Ext.alloc ?_ _ | refine Ext.drew ?_ | refine Ext.drewN ?_ _ | (refine Ext.setCell ?_ (by simp <;> omega) _) | refine Ext.trans ?_ (by assumption))), gives_k (by kernel_rfl)⟩
                · intro U W hx hR
                  clear hR
                  refine StepZ.go (by kernel_rfl) ?_
                  go_simp
                  exact ⟨(by repeat (first | exact Ext.refl _ | assumption | refine Ext.alloc ?_ _ | refine Ext.drew ?_ | refine Ext.drewN ?_ _ | (refine Ext.setCell ?_ (by simp <;> omega) _) | refine Ext.trans ?_ (by assumption))), gives_k (by kernel_rfl)⟩
                · intro U W hx hR
                  clear hR
                  refine StepZ.go (by kernel_rfl) ?_
                  go_simp
                  exact ⟨(by repeat (first | exact Ext.refl _ | assumption | refine Ext.alloc ?_ _ | refine Ext.drew ?_ | refine Ext.drewN ?_ _ | (refine Ext.setCell ?_ (by simp <;> omega) _) | refine Ext.trans ?_ (by assumption))), gives_k (by kernel_rfl)⟩
                · intro U W hx hR
                  clear hR
                  refine StepZ.go (by kernel_rfl) ?_
                  go_simp
                  exact ⟨(by repeat (first | exact Ext.refl _ | assumption | refine Ext.alloc ?_ _ | refine Ext.drew ?_ | refine Ext.drewN ?_ _ | (refine Ext.setCell ?_ (by simp <;> omega) _) | refine Ext.trans ?_ (by assumption))), gives_k (by kernel_rfl)⟩
                · intro U W hx hR
                  clear hR
                  obtain ⟨k0, k1, k2, kl⟩ := (HB1.out.ext hx).c3
                  refine StepZ.go (by kernel_rfl) ?_
                  go_simp
                  exact ⟨(by repeat (first | exact Ext.refl _ | assumption | refine Ext.alloc ?_ _ | refine Ext.drew ?_ | refine Ext.drewN ?_ _ | (refine Ext.setCell ?_ (by simp <;> omega) _) | refine Ext.trans ?_ (by assumption))), gives_k (by kernel_rfl)⟩
                · intro U W hx hR
                  clear hR
                  refine StepZ.go (by kernel_rfl) ?_
                  go_simp
                  exact ⟨(by repeat (first | exact Ext.refl _ | assumption | refine Ext.alloc ?_ _ | refine Ext.drew ?_ | refine Ext.drewN ?_ _ | (refine Ext.setCell ?_ (by simp <;> omega) _) | refine Ext.trans ?_ (by assumption))), gives_k (by kernel_rfl)⟩
                · intro U W hx hR
                  clear hR
                  refine StepZ.go (by kernel_rfl) ?_
                  go_simp
                  exact ⟨(by repeat (first | exact Ext.refl _ | assumption | refine Ext.alloc ?_ _ | refine Ext.drew ?_ | refine Ext.drewN ?_ _ | (refine Ext.setCell ?_ (by simp <;> omega) _) | refine Ext.trans ?_ (by assumption))), gives_k (by kernel_rfl)⟩
                · intro U W hx hR
                  clear hR
                  refine StepZ.go (by kernel_rfl) ?_
                  go_simp
                  exact ⟨(by repeat (first | exact Ext.refl _ | assumption | refine Ext.alloc ?_ _ | refine Ext.drew ?_ | refine Ext.drewN ?_ _ | (refine Ext.setCell ?_ (by simp <;> omega) _) | refine Ext.trans ?_ (by assumption))), gives_k (by kernel_rfl)⟩
                · intro U W hx hR
                  clear hR
                  have c9 := (hx.cell (p := ⟨g, off + k * 4 + 1, none⟩) hgw).trans ck1
                  refine StepZ.go (by kernel_rfl) ?_
                  go_simp
                  exact ⟨(by repeat (first | exact Ext.refl _ | assumption | refine Ext.alloc ?_ _ | refine Ext.drew ?_ | refine Ext.drewN ?_ _ | (refine Ext.setCell ?_ (by simp <;> omega) _) | refine Ext.trans ?_ (by assumption))), gives_k (by kernel_rfl)⟩
                · intro U W hx hR
                  clear hR
                  refine StepZ.go (by kernel_rfl) ?_
                  go_simp
                  exact ⟨(by repeat (first | exact Ext.refl _ | assumption | refine Ext.alloc ?_ _ | refine Ext.drew ?_ | refine Ext.drewN ?_ _ | (refine Ext.setCell ?_ (by simp <;> omega) _) | refine Ext.trans ?_ (by assumption))), gives_k (by kernel_rfl)⟩
                · intro U W hx hR
                  clear hR
                  refine StepZ.go (by kernel_rfl) ?_
                  go_simp
                  exact ⟨(by repeat (first | exact Ext.refl _ | assumption | refine Ext.alloc ?_ _ | refine Ext.drew ?_ | refine Ext.drewN ?_ _ | (refine Ext.setCell ?_ (by simp <;> omega) _) | refine Ext.trans ?_ (by assumption))), gives_k (by kernel_rfl)⟩
                · intro U W hx hR
                  clear hR
                  obtain ⟨k0, k1, k2, kl⟩ := (HB1.out.ext hx).c3
                  refine StepZ.go (by kernel_rfl) ?_
                  go_simp
                  exact ⟨(by repeat (first | exact Ext.refl _ | assumption | refine Ext.alloc ?_ _ | refine Ext.drew ?_ | refine Ext.drewN ?_ _ | (refine Ext.setCell ?_ (by simp <;> omega) _) | refine Ext.trans ?_ (by assumption))), gives_k (by kernel_rfl)⟩
                · intro U W hx hR
                  clear hR
                  refine StepZ.go (by kernel_rfl) ?_
                  go_simp
                  exact ⟨(by repeat (first | exact Ext.refl _ | assumption | refine Ext.alloc ?_ _ | refine Ext.drew ?_ | refine Ext.drewN ?_ _ | (refine Ext.setCell ?_ (by simp <;> omega) _) | refine Ext.trans ?_ (by assumption))), gives_k (by kernel_rfl)⟩
                · intro U W hx hR
                  clear hR
                  refine StepZ.go (by kernel_rfl) ?_
                  go_simp
                  exact ⟨(by repeat (first | exact Ext.refl _ | assumption | refine Ext.alloc ?_ _ | refine Ext.drew ?_ | refine Ext.drewN ?_ _ | (refine Ext.setCell ?_ (by simp <;> omega) _) | refine Ext.trans ?_ (by assumption))), gives_k (by kernel_rfl)⟩
                · intro U W hx hR
                  clear hR
                  refine StepZ.go (by kernel_rfl) ?_
                  go_simp
                  exact ⟨(by repeat (first | exact Ext.refl _ | assumption | refine Ext.alloc ?_ _ | refine Ext.drew ?_ | refine Ext.drewN ?_ _ | (refine Ext.setCell ?_ (by simp <;> omega) _) | refine Ext.trans ?_ (by assumption))), gives_k (by kernel_rfl)⟩
                · intro U W hx hR
                  clear hR
                  have c9 := (hx.cell (p := ⟨g, off + j * 4 + 1, none⟩) hgw).trans cj1
                  refine StepZ.go (by kernel_rfl) ?_
                  go_simp
                  exact ⟨(by repeat (first | exact Ext.refl _ | assumption | refine Ext.alloc ?_ _ | refine Ext.drew ?_ | refine Ext.drewN ?_ _ | (refine Ext.setCell ?_ (by simp <;> omega) _) | refine Ext.trans ?_ (by assumption))), gives_k (by kernel_rfl)⟩
                · intro U W hx hR
                  clear hR
                  refine StepZ.go (by kernel_rfl) ?_
                  go_simp
                  exact ⟨(by repeat (first | exact Ext.refl _ | assumption | refine Ext.alloc ?_ _ | refine Ext.drew ?_ | refine Ext.drewN ?_ _ | (refine Ext.setCell ?_ (by simp <;> omega) _) | refine Ext.trans ?_ (by assumption))), gives_k (by kernel_rfl)⟩
                · intro U W hx hR
                  clear hR
                  refine StepZ.go (by kernel_rfl) ?_
                  go_simp
                  exact ⟨(by repeat (first | exact Ext.refl _ | assumption | refine Ext.alloc ?_ _ | refine Ext.drew ?_ | refine Ext.drewN ?_ _ | (refine Ext.setCell ?_ (by simp <;> omega) _) | refine Ext.trans ?_ (by assumption))), gives_k (by kernel_rfl)⟩
                · intro U W hx hR
                  clear hR
                  refine StepZ.go (by kernel_rfl) ?_
                  go_simp
                  exact ⟨(by repeat (first | exact Ext.refl _ | assumption | refine Ext.alloc ?_ _ | refine Ext.drew ?_ | refine Ext.drewN ?_ _ | (refine Ext.setCell ?_ (by simp <;> omega) _) | refine Ext.trans ?_ (by assumption))), gives_k (by kernel_rfl)⟩
                · intro U W hx hR
                  clear hR
                  refine StepZ.go rfl ?_
                  go_simp
                  exact ⟨(by repeat (first | exact Ext.refl _ | assumption | refine Ext.alloc ?_ _ | refine Ext.drew ?_ | refine Ext.drewN ?_ _ | (refine Ext.setCell ?_ (by simp <;> omega) _) | refine Ext.trans ?_ (by assumption))), gives_k (by kernel_rfl)⟩
                · intro U W hx hR
                  clear hR
                  simp only [putAll, vu, Act.put, List.setIfInBounds_toArray, List.set_cons_zero, List.set_cons_succ]
                  go_wp2
                  go_roundw
                  case rel => exact ⟨k + 1, by omega, by rw [HF.out, HF1.out], by go_num, Lib.hid (HX2.out.trans (hx.trans (by repeat (first | exact Ext.refl _ | assumption | refine Ext.alloc ?_ _ | refine Ext.drew ?_ | refine Ext.drewN ?_ _ | (refine Ext.setCell ?_ (by simp <;> omega) _) | refine Ext.trans ?_ (by assumption)))))⟩
                  case measure => simp [intOf]; omega
                -- END D
        case neg =>
          obtain rfl : k = ss.length := by omega
          have ik : ¬ (ss.length : Int) < (ss.length : Int) := by omega
          rw [← HKA.out] at HNX HON
          have y2 := HB1.out.cell 2 _ rfl
          have yl := HB1.out.lt
          clear HKB HKN HKO CMM HK0 HKA HTT
          rcases HKBk.out with hF | ⟨j, hj, hF, hjl, hj1⟩
          · -- BEGIN E
            have HR : Hid (setOf ss l bz = none) := Lib.hid (HON.out (by rw [hF]; decide))
            rw [hF]
            simp only
            clear HNX HON HKBk hF
            go_wp2
            go_ret2
            rw [HR.out]
            exact ⟨none, 0, rfl, SL.nil _ _, HXW.out⟩
            -- END E
          · -- BEGIN G
            rw [hF] at HNX
            have HN2 : Hid (setSt ss l bz (q + 1) = some (a + txN ss j, zs ++ [(j : Int)])) := Lib.hid (by rw [HNX.out, if_neg (by simp)]; simp)
            obtain ⟨g, off, rfl, hgw, hcell⟩ := HRT.out.2.2 (by omega)
            have cj1 := (hcell j hj).2.1
            have HCJ := Lib.hid fun W (h : Ext w W) => And.intro ((h.cell (p := ⟨g, off + j * 4 + 1, none⟩) hgw).trans cj1) (Nat.lt_of_lt_of_le hgw h.size)
            clear cj1 hgw
            have ij : (j : Int) < (ss.length : Int) := by omega
            have ij0 : ¬ (j : Int) < 0 := by omega
            rw [HLL.out] at hjl
            have htn : txN ss j = (ss.getD j TS.zero).text.size := rfl
            rw [hF]
            simp only
            clear HNX HON HKBk hF hcell HST
            have hjl2 : a + txN ss j ≤ s.size := by omega
            generalize txN ss j = n at *
            generalize (ss.getD j TS.zero).text = tj at *
            subst htn
            have u1 : IntKind.i64.wrap ((a : Int) + (tj.size : Int)) = (a : Int) + (tj.size : Int) := IntWalk.i64_in _ (by omega)
            go_upto_region 13 with (first | (at_builtin; refine list_push rfl (.tmp 53) (.tmp 55) rfl w0.heap.size _ zs rfl (HO.out.ext (HX2.out.trans (by repeat (first | exact Ext.refl _ | assumption | refine Ext.alloc ?_ _ | refine Ext.drew ?_ | refine Ext.drewN ?_ _ | (refine Ext.setCell ?_ (by simp <;> omega) _) | refine Ext.trans ?_ (by assumption))))) wr.heap.size (j : Int) rfl (by simp) (by have := HZL.out; omega) (by have := (HX1.out.trans HX2.out).size; simp; omega) ?_; intro v' w' ho hg; have HO2 := Lib.hid ho; have HX5 : Hid (Ext w0 w') := Lib.hid (own_ext hg (HO.out.ext (HX2.out.trans (by repeat (first | exact Ext.refl _ | assumption | refine Ext.alloc ?_ _ | refine Ext.drew ?_ | refine Ext.drewN ?_ _ | (refine Ext.setCell ?_ (by simp <;> omega) _) | refine Ext.trans ?_ (by assumption))))) ((HX1.out.trans HX2.out).trans (by repeat (first | exact Ext.refl _ | assumption | refine Ext.alloc ?_ _ | refine Ext.drew ?_ | refine Ext.drewN ?_ _ | (refine Ext.setCell ?_ (by simp <;> omega) _) | refine Ext.trans ?_ (by assumption))))); clear ho hg))
            have HB5 := Lib.hid (HB.out.ext HX5.out)
            have z2 := HB5.out.cell 2 _ rfl
            have zl := HB5.out.lt
            clear y2 yl
            obtain ⟨z3, z4⟩ := HCJ.out _ (HX0.out.trans HX5.out)
            go_wp2
            go_roundw
            case rel => exact ⟨q + 1, a + tj.size, _, by omega, by go_num, HN2, HO2, HX5⟩
            case measure => simp [intOf]; omega
            -- END G
    case neg =>
      -- BEGIN H
      obtain rfl : a = s.size := by omega
      have ia : ¬ (s.size : Int) < (s.size : Int) := by omega
      have HR : Hid (setOf ss l bz = some zs) := Lib.hid (setOf_some HST.out (by rw [HLL.out]; omega))
      obtain ⟨A8, c8, rfl, hc8, hr8⟩ := HO.out.form (by have := HZL.out; omega)
      go_wp2
      go_ret2
      rw [HR.out]
      exact ⟨A8, c8, rfl, (SL.of_own HO.out (by have := HZL.out; omega)).mono (by have := HX0.out.size; omega), HX0.out.trans HX1.out⟩
      -- END H
end Go.Proofs.YtccdnieoaejgdaaGreatDoor
