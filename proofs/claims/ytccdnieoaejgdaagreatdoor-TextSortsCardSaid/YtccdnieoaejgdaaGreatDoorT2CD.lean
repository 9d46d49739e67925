/-
  Walk: what is wrong with a fount, its rules and a word (the law's WordErr); the sorts of a word (the reference's SortsOf).
-/
import Derived.Test.YtccdnieoaejgdaaGreatDoorT2CC
import Derived.Test.YtccdnieoaejgdaaGreatDoorT2CB
import Derived.Test.YtccdnieoaejgdaaGreatDoorT2BL
set_option linter.unusedVariables false
set_option linter.unusedSimpArgs false
set_option linter.unusedSectionVars false
namespace Go.Proofs.YtccdnieoaejgdaaGreatDoor
open Go.RowKit Go.Lib
attribute [local go_sem] stateAt vu known List.map_cons List.map_nil Option.getD_some

theorem mkBad_err2 {lt : Bool} {m : UInt8} {l : List ByteArray} {k : Nat} : ∀ n, mkBad lt m l n = some k → mkErr lt m l k ≠ 0
  | 0, h => by cases h
  | n + 1, h => by
    rw [mkBad] at h
    cases hb : mkBad lt m l n with
    | some j => rw [hb] at h; cases h; exact mkBad_err2 n hb
    | none =>
      rw [hb] at h
      simp only at h
      split at h
      · cases h
      · rename_i he; cases h; exact he
theorem mkBad_chk2 {lt : Bool} {m : UInt8} {l : List ByteArray} (h : (mkChk lt m l).2 = 0) : mkBad lt m l l.length = none := by
  unfold mkChk at h
  split at h
  · cases h
  · cases hb : mkBad lt m l l.length with
    | none => rfl
    | some k =>
      rw [hb] at h
      simp only at h
      exact absurd h (mkBad_err2 _ hb)
set_option maxHeartbeats 4000000 in
theorem wordErr_any (f : FT) (A : Option Addr) (c : Nat) (r : RU) (a : RuA) (s : ByteArray) (w : World) (hf : FR w A c f) (h : RuR w a r) (hs : ShortU r) (hz : s.size ≤ 1000000) : Calls Tryz.prog 30 #[f.val A c, r.val a, .string s] w (Ret (.int .i64 (wordE f r s)) w) := by
  have CF := Lib.hid fun W (hx : Ext w W) => rFountErr_any f A c W (hf.ext hx)
  have CR := Lib.hid fun W (hx : Ext w W) => rErr2_any r a W (h.ext hx) hs
  have CW := Lib.hid fun W => rIsWord_any s W hz
  have HE1 : Hid ((chk f).2 ≠ 0 → wordE f r s = (chk f).2) := Lib.hid fun h1 => by unfold wordE openE; rw [if_pos h1, if_pos h1]
  have HE2 : Hid ((chk f).2 = 0 → (ruleE r).2 ≠ 0 → wordE f r s = (ruleE r).2) := Lib.hid fun h1 h2 => by unfold wordE openE; rw [if_neg (show ¬ (chk f).2 ≠ 0 from fun h => h h1), if_pos h2]
  have HE3 : Hid ((chk f).2 = 0 → (ruleE r).2 = 0 → wordE f r s = if wordB s = true then 0 else 3) := Lib.hid fun h1 h2 => by unfold wordE openE; rw [if_neg (show ¬ (chk f).2 ≠ 0 from fun h => h h1), if_neg (show ¬ (ruleE r).2 ≠ 0 from fun h => h h2)]
  have HBC : Hid (∀ X, Ext ((w.alloc (.cells #[.string f.name, .int .i64 f.body, .slice A f.sorts.length c] 42)).alloc (.cells #[.slice a.pa r.pats.length a.pc, .slice a.ea r.excs.length a.ec, .slice a.ba r.bars.length a.bc, .int .i64 r.left, .int .i64 r.right] 24)) X → (X.cell? ⟨w.heap.size + 1, 0, none⟩ = some (.slice a.pa r.pats.length a.pc) ∧ X.cell? ⟨w.heap.size + 1, 1, none⟩ = some (.slice a.ea r.excs.length a.ec) ∧ X.cell? ⟨w.heap.size + 1, 2, none⟩ = some (.slice a.ba r.bars.length a.bc)) ∧ X.cell? ⟨w.heap.size + 1, 3, none⟩ = some (.int .i64 r.left) ∧ X.cell? ⟨w.heap.size + 1, 4, none⟩ = some (.int .i64 r.right) ∧ w.heap.size + 1 < X.heap.size) := Lib.hid fun X hx => by
    have hb := (Blk.new1 w (.cells #[.string f.name, .int .i64 f.body, .slice A f.sorts.length c] 42) 24 #[.slice a.pa r.pats.length a.pc, .slice a.ea r.excs.length a.ec, .slice a.ba r.bars.length a.bc, .int .i64 r.left, .int .i64 r.right]).ext hx
    exact ⟨⟨hb.cell 0 _ rfl, hb.cell 1 _ rfl, hb.cell 2 _ rfl⟩, hb.cell 3 _ rfl, hb.cell 4 _ rfl, hb.lt⟩
  generalize wordE f r s = out at *
  generalize (ruleE r).2 = e2 at *
  generalize (chk f).2 = e1 at *
  unfold RU.val FT.val at *
  clear h hs hf
  by_cases h1 : e1 = 0
  case neg =>
    have b0 : (e1 != 0) = true := by simpa using h1
    have HE := Lib.hid (HE1.out h1)
    clear HE1 HE2 HE3
    go_enter Tryz.func30, Tryz.ntmps30
    go_wp2_with (first | (go_at_call 27; refine Calls.mono (CF.out _ (by repeat (first | exact Ext.refl _ | assumption | refine Ext.alloc ?_ _ | refine Ext.drew ?_ | refine Ext.drewN ?_ _ | (refine Ext.setCell ?_ (by simp <;> omega) _) | refine Ext.trans ?_ (by assumption)))) ?_; rintro e w1 ⟨rfl, hx⟩; obtain ⟨⟨y0, y1, y2⟩, y3, y4, yl⟩ := HBC.out _ hx; have HX1 := Lib.hid (Ext.trans (a := w) (by repeat (first | exact Ext.refl _ | assumption | refine Ext.alloc ?_ _ | refine Ext.drew ?_ | refine Ext.drewN ?_ _ | (refine Ext.setCell ?_ (by simp <;> omega) _) | refine Ext.trans ?_ (by assumption))) hx); clear hx))
    go_ret
    exact Ret.mk' (by rw [HE.out]; rfl) HX1.out
  case pos =>
    subst h1
    by_cases h0 : e2 = 0
    case neg =>
      have b0 : (e2 != 0) = true := by simpa using h0
      have HE := Lib.hid (HE2.out rfl h0)
      clear HE1 HE2 HE3
      go_enter Tryz.func30, Tryz.ntmps30
      go_wp2_with (first | (go_at_call 27; refine Calls.mono (CF.out _ (by repeat (first | exact Ext.refl _ | assumption | refine Ext.alloc ?_ _ | refine Ext.drew ?_ | refine Ext.drewN ?_ _ | (refine Ext.setCell ?_ (by simp <;> omega) _) | refine Ext.trans ?_ (by assumption)))) ?_; rintro e w1 ⟨rfl, hx⟩; obtain ⟨⟨y0, y1, y2⟩, y3, y4, yl⟩ := HBC.out _ hx; have HX1 := Lib.hid (Ext.trans (a := w) (by repeat (first | exact Ext.refl _ | assumption | refine Ext.alloc ?_ _ | refine Ext.drew ?_ | refine Ext.drewN ?_ _ | (refine Ext.setCell ?_ (by simp <;> omega) _) | refine Ext.trans ?_ (by assumption))) hx); clear hx) | (go_at_call 33; refine Calls.mono (CR.out _ (HX1.out.trans (by repeat (first | exact Ext.refl _ | assumption | refine Ext.alloc ?_ _ | refine Ext.drew ?_ | refine Ext.drewN ?_ _ | (refine Ext.setCell ?_ (by simp <;> omega) _) | refine Ext.trans ?_ (by assumption))))) ?_; rintro e w2 ⟨rfl, hx⟩; have HX2 := Lib.hid (HX1.out.trans (Ext.trans (by repeat (first | exact Ext.refl _ | assumption | refine Ext.alloc ?_ _ | refine Ext.drew ?_ | refine Ext.drewN ?_ _ | (refine Ext.setCell ?_ (by simp <;> omega) _) | refine Ext.trans ?_ (by assumption))) hx)); clear hx))
      go_ret
      exact Ret.mk' (by rw [HE.out]; rfl) HX2.out
    case pos =>
      subst h0
      have HE := Lib.hid (HE3.out rfl rfl)
      clear HE1 HE2 HE3
      cases hw : wordB s
      all_goals
        rw [hw] at CW HE
        go_enter Tryz.func30, Tryz.ntmps30
        go_wp2_with (first | (go_at_call 27; refine Calls.mono (CF.out _ (by repeat (first | exact Ext.refl _ | assumption | refine Ext.alloc ?_ _ | refine Ext.drew ?_ | refine Ext.drewN ?_ _ | (refine Ext.setCell ?_ (by simp <;> omega) _) | refine Ext.trans ?_ (by assumption)))) ?_; rintro e w1 ⟨rfl, hx⟩; obtain ⟨⟨y0, y1, y2⟩, y3, y4, yl⟩ := HBC.out _ hx; have HX1 := Lib.hid (Ext.trans (a := w) (by repeat (first | exact Ext.refl _ | assumption | refine Ext.alloc ?_ _ | refine Ext.drew ?_ | refine Ext.drewN ?_ _ | (refine Ext.setCell ?_ (by simp <;> omega) _) | refine Ext.trans ?_ (by assumption))) hx); clear hx) | (go_at_call 33; refine Calls.mono (CR.out _ (HX1.out.trans (by repeat (first | exact Ext.refl _ | assumption | refine Ext.alloc ?_ _ | refine Ext.drew ?_ | refine Ext.drewN ?_ _ | (refine Ext.setCell ?_ (by simp <;> omega) _) | refine Ext.trans ?_ (by assumption))))) ?_; rintro e w2 ⟨rfl, hx⟩; have HX2 := Lib.hid (HX1.out.trans (Ext.trans (by repeat (first | exact Ext.refl _ | assumption | refine Ext.alloc ?_ _ | refine Ext.drew ?_ | refine Ext.drewN ?_ _ | (refine Ext.setCell ?_ (by simp <;> omega) _) | refine Ext.trans ?_ (by assumption))) hx)); clear hx) | (go_at_call 28; refine Calls.mono (CW.out _) ?_; rintro e w3 ⟨rfl, rfl⟩))
        go_ret
        exact Ret.mk' (by rw [HE.out]; rfl) HX2.out

set_option maxHeartbeats 4000000 in
theorem rSortsOf_any (f : FT) (A : Option Addr) (c : Nat) (r : RU) (a : RuA) (s : ByteArray) (w : World) (hf : FR w A c f) (h : RuR w a r) (hs : ShortU r) (hE : wordE f r s = 0) :
    Calls Tryz.prog 31 #[f.val A c, r.val a, .string s] w (RetSE (sortsV f r s) (sortsE f r s) w) := by
  obtain ⟨e1, e2, e3⟩ := wordE_ok hE
  have h30 := (wordB_size e3).2
  have HV : Hid (sortsV f r s = (setOf f.sorts s.data.toList (barLook r s.data.toList)).getD []) := Lib.hid (by unfold sortsV setV; rw [if_neg (by rw [hE]; simp)])
  have HE : Hid (sortsE f r s = if (setOf f.sorts s.data.toList (barLook r s.data.toList)).isSome = true then 0 else 6) := Lib.hid (by unfold sortsE setE; rw [if_neg (by rw [hE]; simp)])
  have CB := Lib.hid fun W (hx : Ext w W) => rBars_any r a s W (h.ext hx) (fun k hk => by have := hs.b.2 k hk; omega) (mkBad_chk2 (RightU.of e2).bar)
  have CS := Lib.hid fun W (hx : Ext w W) B bc (hb : RI W B (barLook r s.data.toList).length (barLook r s.data.toList)) => rSet_any f A c s B bc (barLook r s.data.toList) W (hf.ext hx) (by omega) hb (fun k hk => by
    unfold txN
    rcases chk_text e1 hk with h | h | h
    · exact ⟨by omega, fun _ => by omega⟩
    · exact ⟨by omega, fun _ => by omega⟩
    · exact ⟨by omega, fun h9 => absurd h.1 h9⟩)
  have HBL : Hid ((barLook r s.data.toList).length ≤ 1000) := Lib.hid (by
    unfold barLook
    cases hb : mkLook false 124 r.bars r.bars.length s.data.toList with
    | none => simp
    | some q => have := mkLook_len hb; simp only [Option.getD_some]; simp at this; omega)
  generalize sortsV f r s = zs at *
  generalize sortsE f r s = er at *
  generalize setOf f.sorts s.data.toList (barLook r s.data.toList) = o at *
  generalize barLook r s.data.toList = bz at *
  have HBF : Hid (Blk ((w.alloc (.cells #[.string f.name, .int .i64 f.body, .slice A f.sorts.length c] 42)).alloc (.cells #[.slice a.pa r.pats.length a.pc, .slice a.ea r.excs.length a.ec, .slice a.ba r.bars.length a.bc, .int .i64 r.left, .int .i64 r.right] 24)) w.heap.size 42 #[.string f.name, .int .i64 f.body, .slice A f.sorts.length c]) := Lib.hid ((Blk.new w _ _).alloc _)
  have HBC : Hid (∀ X, Ext ((w.alloc (.cells #[.string f.name, .int .i64 f.body, .slice A f.sorts.length c] 42)).alloc (.cells #[.slice a.pa r.pats.length a.pc, .slice a.ea r.excs.length a.ec, .slice a.ba r.bars.length a.bc, .int .i64 r.left, .int .i64 r.right] 24)) X → (X.cell? ⟨w.heap.size + 1, 0, none⟩ = some (.slice a.pa r.pats.length a.pc) ∧ X.cell? ⟨w.heap.size + 1, 1, none⟩ = some (.slice a.ea r.excs.length a.ec) ∧ X.cell? ⟨w.heap.size + 1, 2, none⟩ = some (.slice a.ba r.bars.length a.bc)) ∧ X.cell? ⟨w.heap.size + 1, 3, none⟩ = some (.int .i64 r.left) ∧ X.cell? ⟨w.heap.size + 1, 4, none⟩ = some (.int .i64 r.right) ∧ w.heap.size + 1 < X.heap.size) := Lib.hid fun X hx => by
    have hb := (Blk.new1 w (.cells #[.string f.name, .int .i64 f.body, .slice A f.sorts.length c] 42) 24 #[.slice a.pa r.pats.length a.pc, .slice a.ea r.excs.length a.ec, .slice a.ba r.bars.length a.bc, .int .i64 r.left, .int .i64 r.right]).ext hx
    exact ⟨⟨hb.cell 0 _ rfl, hb.cell 1 _ rfl, hb.cell 2 _ rfl⟩, hb.cell 3 _ rfl, hb.cell 4 _ rfl, hb.lt⟩
  have HX0 : Hid (Ext w ((w.alloc (.cells #[.string f.name, .int .i64 f.body, .slice A f.sorts.length c] 42)).alloc (.cells #[.slice a.pa r.pats.length a.pc, .slice a.ea r.excs.length a.ec, .slice a.ba r.bars.length a.bc, .int .i64 r.left, .int .i64 r.right] 24))) := Lib.hid (((Ext.refl w).alloc _).alloc _)
  have CB2 := Lib.hid fun W (hx : Ext w W) => (CB.out W hx).mono fun e w' h => by
    obtain ⟨v, he, ho, hb⟩ := h
    obtain ⟨B, d, hv, hc, hr⟩ := ho.form (by have := HBL.out; omega)
    subst hv
    exact (⟨B, d, he, hr, hb⟩ : ∃ B d, e = .returned (.slice B bz.length d) ∧ RI w' B bz.length bz ∧ Ext W w')
  unfold RU.val FT.val at *
  clear h hs hf hE e1 e2 e3 CB
  go_enter Tryz.func31, Tryz.ntmps31
  go_upto_region 1 with fail
  refine wp_region_rel [some (.agg #[.string f.name, .int .i64 f.body, .slice A f.sorts.length c]), some (.string s), some (.agg #[.slice a.pa r.pats.length a.pc, .slice a.ea r.excs.length a.ec, .slice a.ba r.bars.length a.bc, .int .i64 r.left, .int .i64 r.right]), some (.string s), none, none, none, none, some (.bool o.isSome), none, some (.bool o.isSome)] (fun k v W => (k = 4 → (fun (v : Value) (W : World) => ∃ B d, v = .slice B bz.length d ∧ RI W B bz.length bz) v W) ∧ (k = 5 → (fun (v : Value) (W : World) => ∃ C d, v = .tuple #[.slice C (o.getD []).length d, .bool o.isSome] ∧ SL W w.heap.size C d (o.getD [])) v W) ∧ (k = 6 → (fun (v : Value) (W : World) => ∃ C d, v = .tuple #[.slice C (o.getD []).length d, .bool o.isSome] ∧ SL W w.heap.size C d (o.getD [])) v W) ∧ (k = 7 → (fun (v : Value) (W : World) => ∃ C d, v = .slice C (o.getD []).length d ∧ SL W w.heap.size C d (o.getD [])) v W) ∧ (k = 9 → (fun (v : Value) (W : World) => ∃ C d, v = .slice C (o.getD []).length d ∧ SL W w.heap.size C d (o.getD [])) v W)) (((w.alloc (.cells #[.string f.name, .int .i64 f.body, .slice A f.sorts.length c] 42)).alloc (.cells #[.slice a.pa r.pats.length a.pc, .slice a.ea r.excs.length a.ec, .slice a.ba r.bars.length a.bc, .int .i64 r.left, .int .i64 r.right] 24))) (by kernel_rfl) (by kernel_rfl) rfl (fun k v W W' h hx => ⟨fun e => let ⟨B, d, h1, h2⟩ := (h.1 e); ⟨B, d, h1, h2.ext hx⟩, fun e => let ⟨B, d, h1, h2⟩ := (h.2.1 e); ⟨B, d, h1, h2.ext hx⟩, fun e => let ⟨B, d, h1, h2⟩ := (h.2.2.1 e); ⟨B, d, h1, h2.ext hx⟩, fun e => let ⟨B, d, h1, h2⟩ := (h.2.2.2.1 e); ⟨B, d, h1, h2.ext hx⟩, fun e => let ⟨B, d, h1, h2⟩ := (h.2.2.2.2 e); ⟨B, d, h1, h2.ext hx⟩⟩) (Ext.refl _) ⟨?_, ?_, ?_, ?_, ?_, ?_, ?_, ?_, ?_, ?_, ?_, trivial⟩ ?_
  · intro U W hx hR
    clear hR
    obtain ⟨k0, k1, k2, kl⟩ := (HBF.out.ext hx).c3
    refine StepZ.go rfl ?_
    go_simp
    exact ⟨(by repeat (first | exact Ext.refl _ | assumption | refine Ext.alloc ?_ _ | refine Ext.drew ?_ | refine Ext.drewN ?_ _ | (refine Ext.setCell ?_ (by simp <;> omega) _) | refine Ext.trans ?_ (by assumption))), gives_k (by kernel_rfl)⟩
  · intro U W hx hR
    clear hR
    refine StepZ.go rfl ?_
    go_simp
    exact ⟨(by repeat (first | exact Ext.refl _ | assumption | refine Ext.alloc ?_ _ | refine Ext.drew ?_ | refine Ext.drewN ?_ _ | (refine Ext.setCell ?_ (by simp <;> omega) _) | refine Ext.trans ?_ (by assumption))), gives_k (by kernel_rfl)⟩
  · intro U W hx hR
    clear hR
    obtain ⟨⟨y0, y1, y2⟩, y3, y4, yl⟩ := HBC.out _ hx
    refine StepZ.go rfl ?_
    go_simp
    exact ⟨(by repeat (first | exact Ext.refl _ | assumption | refine Ext.alloc ?_ _ | refine Ext.drew ?_ | refine Ext.drewN ?_ _ | (refine Ext.setCell ?_ (by simp <;> omega) _) | refine Ext.trans ?_ (by assumption))), gives_k (by kernel_rfl)⟩
  · intro U W hx hR
    clear hR
    refine StepZ.go rfl ?_
    go_simp
    exact ⟨(by repeat (first | exact Ext.refl _ | assumption | refine Ext.alloc ?_ _ | refine Ext.drew ?_ | refine Ext.drewN ?_ _ | (refine Ext.setCell ?_ (by simp <;> omega) _) | refine Ext.trans ?_ (by assumption))), gives_k (by kernel_rfl)⟩
  · intro U W hx hR
    clear hR
    refine StepZ.go rfl ?_
    go_simp
    refine Calls.mono (CB2.out _ (HX0.out.trans hx)) ?_; rintro e w1 ⟨B, d, rfl, h1, hb⟩; exact ⟨_, rfl, hb, gives_e (by kernel_rfl) ⟨fun _ => ⟨B, ⟨d, rfl⟩, h1⟩, fun e => absurd e (by decide), fun e => absurd e (by decide), fun e => absurd e (by decide), fun e => absurd e (by decide)⟩⟩
  · intro U W hx hR
    have r4 := (hR 4 (by decide) (by kernel_rfl)).1 rfl; obtain ⟨B4, d4, e4_, h4⟩ := r4
    clear hR
    (try rw [e4_])
    refine StepZ.go rfl ?_
    go_simp
    refine Calls.mono (CS.out _ (HX0.out.trans hx) B4 d4 h4) ?_; rintro e w1 ⟨C, d, rfl, h1, hb⟩; exact ⟨_, rfl, hb, gives_e (by kernel_rfl) ⟨fun e => absurd e (by decide), fun _ => ⟨C, d, rfl, h1.mono (HX0.out.trans hx).size⟩, fun e => absurd e (by decide), fun e => absurd e (by decide), fun e => absurd e (by decide)⟩⟩
  · intro U W hx hR
    have r5 := (hR 5 (by decide) (by kernel_rfl)).2.1 rfl; obtain ⟨C5, d5, e5_, h5⟩ := r5
    clear hR
    (try rw [e5_])
    refine StepZ.go rfl ?_
    go_simp
    exact ⟨Ext.refl _, gives_e (by kernel_rfl) ⟨fun e => absurd e (by decide), fun e => absurd e (by decide), fun _ => ⟨C5, d5, rfl, h5⟩, fun e => absurd e (by decide), fun e => absurd e (by decide)⟩⟩
  · intro U W hx hR
    have r6 := (hR 6 (by decide) (by kernel_rfl)).2.2.1 rfl; obtain ⟨C6, d6, e6_, h6⟩ := r6
    clear hR
    (try rw [e6_])
    refine StepZ.go rfl ?_
    go_simp
    exact ⟨Ext.refl _, gives_e (by kernel_rfl) ⟨fun e => absurd e (by decide), fun e => absurd e (by decide), fun e => absurd e (by decide), fun _ => ⟨C6, d6, rfl, h6⟩, fun e => absurd e (by decide)⟩⟩
  · intro U W hx hR
    have r6 := (hR 6 (by decide) (by kernel_rfl)).2.2.1 rfl; obtain ⟨C6, d6, e6_, h6⟩ := r6
    clear hR
    (try rw [e6_])
    refine StepZ.go rfl ?_
    go_simp
    exact ⟨(by repeat (first | exact Ext.refl _ | assumption | refine Ext.alloc ?_ _ | refine Ext.drew ?_ | refine Ext.drewN ?_ _ | (refine Ext.setCell ?_ (by simp <;> omega) _) | refine Ext.trans ?_ (by assumption))), gives_k (by kernel_rfl)⟩
  · intro U W hx hR
    have r7 := (hR 7 (by decide) (by kernel_rfl)).2.2.2.1 rfl; obtain ⟨C7, d7, e7_, h7⟩ := r7
    clear hR
    (try rw [e7_])
    refine StepZ.go rfl ?_
    go_simp
    exact ⟨Ext.refl _, gives_e (by kernel_rfl) ⟨fun e => absurd e (by decide), fun e => absurd e (by decide), fun e => absurd e (by decide), fun e => absurd e (by decide), fun _ => ⟨C7, d7, rfl, h7⟩⟩⟩
  · intro U W hx hR
    clear hR
    refine StepZ.go rfl ?_
    go_simp
    exact ⟨(by repeat (first | exact Ext.refl _ | assumption | refine Ext.alloc ?_ _ | refine Ext.drew ?_ | refine Ext.drewN ?_ _ | (refine Ext.setCell ?_ (by simp <;> omega) _) | refine Ext.trans ?_ (by assumption))), gives_k (by kernel_rfl)⟩
  · intro U W hx hR
    have r4 := (hR 4 (by decide) (by kernel_rfl)).1 rfl; obtain ⟨B4, d4, e4_, h4⟩ := r4
    have r5 := (hR 5 (by decide) (by kernel_rfl)).2.1 rfl; obtain ⟨C5, d5, e5_, h5⟩ := r5
    have r6 := (hR 6 (by decide) (by kernel_rfl)).2.2.1 rfl; obtain ⟨C6, d6, e6_, h6⟩ := r6
    have r7 := (hR 7 (by decide) (by kernel_rfl)).2.2.2.1 rfl; obtain ⟨C7, d7, e7_, h7⟩ := r7
    have r9 := (hR 9 (by decide) (by kernel_rfl)).2.2.2.2 rfl; obtain ⟨C9, d9, e9_, h9⟩ := r9
    clear hR
    simp only [putAll, vu, Act.put, List.setIfInBounds_toArray, List.set_cons_zero, List.set_cons_succ]
    (try simp only [e4_])
    (try simp only [e5_])
    (try simp only [e6_])
    (try simp only [e7_])
    (try simp only [e9_])
    have HS9 := Lib.hid h9
    have HX9 := Lib.hid (HX0.out.trans hx)
    clear h4 h5 h6 h7 h9 hx
    cases o with
    | none =>
      go_wp2
      go_ret2
      rw [HV.out, HE.out]
      exact ⟨none, 0, rfl, SL.nil _ _, HX9.out⟩
    | some zl =>
      go_wp2
      go_ret2
      rw [HV.out, HE.out]
      exact ⟨C9, d9, rfl, HS9.out, HX9.out⟩
end Go.Proofs.YtccdnieoaejgdaaGreatDoor
