/-
  Walks: laid and its closures.
-/
import Derived.Test.YtniiahddpdiocaaFoldOver
import Derived.Test.YtniiahddpdiocaaFoldCat
namespace Go.Proofs.Ytniiahddpdiocaa
open Go.RowKit
attribute [local go_sem ↓] Go.wp_at_zero Go.wp_at_succ
attribute [local go_sem] stateAt vu known List.map_cons List.map_nil Option.getD_some

/-- What the closures of laid hold: the cells of back, side, rows and first, and the pile's block. -/
structure LaidC (W : World) (p : Pl) (A : Option Addr) (rows : List SLf) (d first : Nat) (rw_ back : Bool) (pb bb sb rb fb : Nat) : Prop where
  pr : PR W p A rows
  pp : PB W pb p A rows.length d
  bk : Blk W bb 4 #[.bool back]
  sd : Blk W sb 3 #[.int .i64 ((if rw_ then p.R else p.C : Nat) : Int)]
  rw_ : Blk W rb 4 #[.bool rw_]
  ft : Blk W fb 3 #[.int .i64 (first : Int)]
theorem LaidC.ext {W W' : World} {p : Pl} {A : Option Addr} {rows : List SLf} {d first : Nat} {r b : Bool} {pb bb sb rb fb : Nat} (h : LaidC W p A rows d first r b pb bb sb rb fb) (hx : Ext W W') : LaidC W' p A rows d first r b pb bb sb rb fb :=
  ⟨h.pr.ext hx, h.pp.ext hx, h.bk.ext hx, h.sd.ext hx, h.rw_.ext hx, h.ft.ext hx⟩
def GetS (l : List Lf) (w : World) (e : Ending) (w' : World) : Prop := ∃ s : SLf, e = .returned s.val ∧ s.l = l ∧ RLf w' s.A s.l ∧ Ext w w'
set_option maxRecDepth 100000 in
set_option maxHeartbeats 4000000 in
theorem get_any (p : Pl) (A : Option Addr) (d first : Nat) (rows : List SLf) (r b : Bool) (pb bb sb rb fb along across : Nat) (W : World) (h : LaidC W p A rows d first r b pb bb sb rb fb) (ho : OkP p) (h1 : along < if r then p.R else p.C) (h2 : across < if r then p.C else p.R) :
    Calls Try.prog 89 #[.int .i64 (along : Int), .int .i64 (across : Int), .pointer (some ⟨bb, 0, none⟩), .pointer (some ⟨sb, 0, none⟩), .pointer (some ⟨rb, 0, none⟩), .pointer (some ⟨pb, 0, none⟩)] W (GetS (p.get r b along across) W) := by
  have hc8 := ho.c8; have hr8 := ho.r8
  obtain ⟨a, ha⟩ : ∃ a, a = if b then (if r then p.R else p.C) - 1 - along else along := ⟨_, rfl⟩
  have hal : a < if r then p.R else p.C := by
    cases b with
    | true => simp only [if_true] at ha; omega
    | false => simp only [Bool.false_eq_true, if_false] at ha; omega
  have hge : p.get r b along across = if r then p.st across a else p.st a across := by unfold Pl.get; simp only [← ha]
  obtain ⟨b0, bl⟩ : W.cell? ⟨bb, 0, none⟩ = some (.bool b) ∧ bb < W.heap.size := ⟨h.bk.cell 0 _ rfl, h.bk.lt⟩
  obtain ⟨s0, sl⟩ : W.cell? ⟨sb, 0, none⟩ = some (.int .i64 ((if r then p.R else p.C : Nat) : Int)) ∧ sb < W.heap.size := ⟨h.sd.cell 0 _ rfl, h.sd.lt⟩
  obtain ⟨r0, rl⟩ : W.cell? ⟨rb, 0, none⟩ = some (.bool r) ∧ rb < W.heap.size := ⟨h.rw_.cell 0 _ rfl, h.rw_.lt⟩
  obtain ⟨k0, k1, k2, kl⟩ := h.pp.c3
  have HPR := Lib.hid h.pr
  obtain ⟨sd, hsd⟩ : ∃ sd, sd = if r then p.R else p.C := ⟨_, rfl⟩
  rw [← hsd] at s0 h1 hal ha
  have hs8 : sd ≤ 8 := by
    cases r with
    | true => simp only [if_true] at hsd; omega
    | false => simp only [Bool.false_eq_true, if_false] at hsd; omega
  have w1 : IntKind.i64.wrap ((sd : Int) - 1) = (sd : Int) - 1 := IntWalk.i64_in _ (by omega)
  have w2 : b = true → IntKind.i64.wrap ((sd : Int) - 1 - (along : Int)) = (a : Int) := fun hb => by subst hb; simp only [if_true] at ha; rw [IntWalk.i64_in _ (by omega)]; omega
  have w3 : b = false → a = along := fun hb => by subst hb; simpa using ha
  rw [hge]
  have CS := Lib.hid fun W x y h hx hy => stack_any p A d rows x y W h ho.len ho.c8 ho.r8 hx hy
  unfold plV at CS
  have HO := Lib.hid ho
  clear h ho hge ha
  cases r
  · simp only [Bool.false_eq_true, if_false] at *
    subst hsd
    have HA := Lib.hid hal; have HB := Lib.hid h2
    clear hal h2 h1
    cases b
    · obtain rfl := w3 rfl
      clear w2 w3
      go_enter Try.func89, Try.ntmps89
      go_wp2_with (first | (go_at_call 86; refine Calls.mono (CS.out _ a across HPR.out HA.out HB.out) ?_; rintro e w1 ⟨s, rfl, hs, hlf, hx⟩; have HS := Lib.hid hs; have HLF := Lib.hid hlf; have HX := Lib.hid hx; clear hs hlf hx))
      go_ret
      exact ⟨s, rfl, HS.out, HLF.out, HX.out⟩
    · replace w2 := w2 rfl
      clear w3
      go_enter Try.func89, Try.ntmps89
      go_wp2_with (first | (go_at_call 86; refine Calls.mono (CS.out _ a across HPR.out HA.out HB.out) ?_; rintro e w1 ⟨s, rfl, hs, hlf, hx⟩; have HS := Lib.hid hs; have HLF := Lib.hid hlf; have HX := Lib.hid hx; clear hs hlf hx))
      go_ret
      exact ⟨s, rfl, HS.out, HLF.out, HX.out⟩
  · simp only [if_true] at *
    subst hsd
    have HA := Lib.hid hal; have HB := Lib.hid h2
    clear hal h2 h1
    cases b
    · obtain rfl := w3 rfl
      clear w2 w3
      go_enter Try.func89, Try.ntmps89
      go_wp2_with (first | (go_at_call 86; refine Calls.mono (CS.out _ across a HPR.out HB.out HA.out) ?_; rintro e w1 ⟨s, rfl, hs, hlf, hx⟩; have HS := Lib.hid hs; have HLF := Lib.hid hlf; have HX := Lib.hid hx; clear hs hlf hx))
      go_ret
      exact ⟨s, rfl, HS.out, HLF.out, HX.out⟩
    · replace w2 := w2 rfl
      clear w3
      go_enter Try.func89, Try.ntmps89
      go_wp2_with (first | (go_at_call 86; refine Calls.mono (CS.out _ across a HPR.out HB.out HA.out) ?_; rintro e w1 ⟨s, rfl, hs, hlf, hx⟩; have HS := Lib.hid hs; have HLF := Lib.hid hlf; have HX := Lib.hid hx; clear hs hlf hx))
      go_ret
      exact ⟨s, rfl, HS.out, HLF.out, HX.out⟩
/-- The value of get as it is held. -/
abbrev getV (bb sb rb pb : Nat) : Value := .func (.func 89) #[] #[.pointer (some ⟨bb, 0, none⟩), .pointer (some ⟨sb, 0, none⟩), .pointer (some ⟨rb, 0, none⟩), .pointer (some ⟨pb, 0, none⟩)]
theorem get_ok2 {p : Pl} (ho : OkP p) (r b : Bool) {x y : Nat} (h1 : x < if r then p.R else p.C) (h2 : y < if r then p.C else p.R) : (p.get r b x y).length ≤ 50000 ∧ BitL (p.get r b x y) := by
  unfold Pl.get
  cases r with
  | true =>
    simp only [if_true] at *
    refine ⟨ho.sl _ _ h2 ?_, ho.bit _ _⟩
    cases b <;> simp <;> omega
  | false =>
    simp only [Bool.false_eq_true, if_false] at *
    refine ⟨ho.sl _ _ ?_ h2, ho.bit _ _⟩
    cases b <;> simp <;> omega
/-- The rows' slice of two stacks. -/
theorem two_rpl {W : World} {g : Nat} {s t : SLf} (hb : Blk W g 86 #[s.val, t.val]) (hs : RLf W s.A s.l) (ht : RLf W t.A t.l) : RPl W (some ⟨g, 0, none⟩) [s, t] :=
  ⟨RC.blk (n := 2) (size := 1) hb rfl (by omega), fun x hx => by
    simp only [List.mem_cons, List.not_mem_nil, or_false] at hx
    rcases hx with rfl | rfl
    · exact hs
    · exact ht⟩
/-- What is known of the values in the region that lays a stack over another one. -/
def PZ (base : Nat) (L1 : List Lf) (r : Bool) (bel : SLf) : Nat → Value → World → Prop
  | 3, u, W => ∃ s : SLf, u = s.val ∧ s.l = L1 ∧ RLf W s.A s.l
  | 5, u, W => ∃ s : SLf, u = s.val ∧ s.l = turnedP L1 r ∧ OLf W base s.val s.l
  | 7, u, W => ∃ (g : Nat) (s : SLf), u = .slice (some ⟨g, 0, none⟩) 2 2 ∧ Blk W g 86 #[s.val, bel.val] ∧ s.l = turnedP L1 r ∧ RLf W s.A s.l
  | 8, u, W => OLf W base u (turnedP L1 r ++ bel.l)
  | 9, u, W => OLf W base u (turnedP L1 r ++ bel.l)
  | _, _, _ => True
theorem PZ.ext {base : Nat} {L1 : List Lf} {r : Bool} {bel : SLf} {k : Nat} {v : Value} {W W' : World} (h : PZ base L1 r bel k v W) (hx : Ext W W') : PZ base L1 r bel k v W' := by
  unfold PZ at h ⊢
  split at h
  · obtain ⟨s, h1, h2, h3⟩ := h; exact ⟨s, h1, h2, h3.ext hx⟩
  · obtain ⟨s, h1, h2, h3⟩ := h; exact ⟨s, h1, h2, h3.ext hx⟩
  · obtain ⟨g, s, h1, h2, h3, h4⟩ := h; exact ⟨g, s, h1, h2.ext hx, h3, h4.ext hx⟩
  · exact OLf.ext h hx
  · exact OLf.ext h hx
  · trivial
set_option maxRecDepth 100000 in
set_option maxHeartbeats 8000000 in
theorem put_any (p : Pl) (A : Option Addr) (d first : Nat) (rows : List SLf) (r b : Bool) (pb bb sb rb fb gb : Nat) (T : TypeId) (along across : Nat) (W : World) (h : LaidC W p A rows d first r b pb bb sb rb fb) (hgb : Blk W gb T #[getV bb sb rb pb]) (ho : OkP p)
    (hf1 : first ≤ if r then p.R else p.C) (hf2 : (if r then p.R else p.C) ≤ 2 * first) (h1 : along < first) (h2 : across < if r then p.C else p.R) :
    Calls Try.prog 90 #[.int .i64 (along : Int), .int .i64 (across : Int), .pointer (some ⟨bb, 0, none⟩), .pointer (some ⟨fb, 0, none⟩), .pointer (some ⟨gb, 0, none⟩), .pointer (some ⟨sb, 0, none⟩), .pointer (some ⟨rb, 0, none⟩)] W (RetLf (p.put first r b along across) W) := by
  have hc8 := ho.c8; have hr8 := ho.r8
  have eg : ∀ args w, (callFunc 89 args).run Try.prog w = .ok (.enter 89 args) w := fun _ _ => by kernel_rfl
  have mixed : Try.prog.follows .mixedOrders = true := by kernel_rfl
  obtain ⟨a, ha⟩ : ∃ a, a = if b then first - 1 - along else along := ⟨_, rfl⟩
  have hal : a < first := by
    cases b with
    | true => simp only [if_true] at ha; omega
    | false => simp only [Bool.false_eq_true, if_false] at ha; omega
  obtain ⟨sd, hsd⟩ : ∃ sd, sd = if r then p.R else p.C := ⟨_, rfl⟩
  have hpe : p.put first r b along across = if 2 * first - 1 - a < sd then turnedP (p.get r b (2 * first - 1 - a) across) r ++ p.get r b a across else p.get r b a across := by unfold Pl.put; simp only [← ha, ← hsd]
  have HC := Lib.hid h
  have CG := Lib.hid fun W x y h h1 h2 => get_any p A d first rows r b pb bb sb rb fb x y W h ho h1 h2
  obtain ⟨b0, bl⟩ : W.cell? ⟨bb, 0, none⟩ = some (.bool b) ∧ bb < W.heap.size := ⟨h.bk.cell 0 _ rfl, h.bk.lt⟩
  obtain ⟨f0, fl⟩ : W.cell? ⟨fb, 0, none⟩ = some (.int .i64 (first : Int)) ∧ fb < W.heap.size := ⟨h.ft.cell 0 _ rfl, h.ft.lt⟩
  obtain ⟨g0, gl⟩ : W.cell? ⟨gb, 0, none⟩ = some (getV bb sb rb pb) ∧ gb < W.heap.size := ⟨hgb.cell 0 _ rfl, hgb.lt⟩
  have HGB := Lib.hid hgb
  have hs8 : sd ≤ 8 := by
    cases r with
    | true => simp only [if_true] at hsd; omega
    | false => simp only [Bool.false_eq_true, if_false] at hsd; omega
  have HBE := Lib.hid (get_ok2 ho r b (x := a) (y := across) (by rw [← hsd]; omega) h2)
  have HTO := Lib.hid fun hx => get_ok2 ho r b (x := 2 * first - 1 - a) (y := across) (by rw [← hsd]; exact hx) h2
  have HAS : Hid (a < if r then p.R else p.C) := Lib.hid (by rw [← hsd]; omega)
  have HTS : Hid (2 * first - 1 - a < sd → 2 * first - 1 - a < if r then p.R else p.C) := Lib.hid (by rw [← hsd]; exact id)
  have HAC := Lib.hid h2
  have hsb := h.sd
  have hrb := h.rw_
  rw [← hsd] at hsb hf1 hf2
  have HSB := Lib.hid hsb
  have HRB := Lib.hid hrb
  have w1 : IntKind.i64.wrap ((first : Int) - 1) = (first : Int) - 1 := IntWalk.i64_in _ (by omega)
  have w2 : b = true → IntKind.i64.wrap ((first : Int) - 1 - (along : Int)) = (a : Int) := fun hb => by subst hb; simp only [if_true] at ha; rw [IntWalk.i64_in _ (by omega)]; omega
  have w3 : b = false → a = along := fun hb => by subst hb; simpa using ha
  have w4 : IntKind.i64.wrap (2 * (first : Int)) = 2 * (first : Int) := IntWalk.i64_in _ (by omega)
  have w5 : IntKind.i64.wrap (2 * (first : Int) - 1) = 2 * (first : Int) - 1 := IntWalk.i64_in _ (by omega)
  obtain ⟨q, hq⟩ : ∃ q, q = 2 * first - 1 - a := ⟨_, rfl⟩
  have w6 : IntKind.i64.wrap (2 * (first : Int) - 1 - (a : Int)) = (q : Int) := by rw [IntWalk.i64_in _ (by omega)]; omega
  rw [← hq] at hpe HTO HTS
  rw [hpe]
  clear h hgb ho hpe ha hsd hsb hrb hf1 hf2 hal hq h2
  cases b
  case false =>
    obtain rfl := w3 rfl
    clear w2 w3
    go_enter Try.func90, Try.ntmps90
    go_upto_region 4 with (first | (go_at_fn 89; refine Calls.mono (CG.out _ a across (HC.out.ext (by repeat (first | exact Ext.refl _ | assumption | refine Ext.alloc ?_ _ | refine Ext.drew ?_ | refine Ext.drewN ?_ _ | (refine Ext.setCell ?_ (by simp <;> omega) _) | refine Ext.trans ?_ (by assumption)))) HAS.out HAC.out) ?_; rintro e w1 ⟨⟨sA, sc, sl⟩, rfl, hs, hlf, hx⟩; simp only at hs; have HS := Lib.hid hs; simp only [SLf.val]; have HLF := Lib.hid hlf; have HX := Lib.hid (Ext.trans (by repeat (first | exact Ext.refl _ | assumption | refine Ext.alloc ?_ _ | refine Ext.drew ?_ | refine Ext.drewN ?_ _ | (refine Ext.setCell ?_ (by simp <;> omega) _) | refine Ext.trans ?_ (by assumption))) hx); clear hs hlf hx))
    rw [← HS.out] at HBE
    obtain ⟨f0, fl⟩ : w1.cell? ⟨fb, 0, none⟩ = some (.int .i64 (first : Int)) ∧ fb < w1.heap.size := ⟨((HC.out.ext HX.out).ft).cell 0 _ rfl, ((HC.out.ext HX.out).ft).lt⟩
    obtain ⟨g0, gl⟩ : w1.cell? ⟨gb, 0, none⟩ = some (getV bb sb rb pb) ∧ gb < w1.heap.size := ⟨(HGB.out.ext HX.out).cell 0 _ rfl, (HGB.out.ext HX.out).lt⟩
    obtain ⟨s0, sbl⟩ : w1.cell? ⟨sb, 0, none⟩ = some (.int .i64 (sd : Int)) ∧ sb < w1.heap.size := ⟨(HSB.out.ext HX.out).cell 0 _ rfl, (HSB.out.ext HX.out).lt⟩
    obtain ⟨r0, rbl⟩ : w1.cell? ⟨rb, 0, none⟩ = some (.bool r) ∧ rb < w1.heap.size := ⟨(HRB.out.ext HX.out).cell 0 _ rfl, (HRB.out.ext HX.out).lt⟩
    by_cases hlt : q < sd
    case neg =>
      have iq : ¬ (q : Int) < (sd : Int) := by omega
      clear hlt
      go_wp2_with (first | (go_at_call 88; refine Calls.mono (cloneLf_any _ _ sl _ (HLF.out.ext (by repeat (first | exact Ext.refl _ | assumption | refine Ext.alloc ?_ _ | refine Ext.drew ?_ | refine Ext.drewN ?_ _ | (refine Ext.setCell ?_ (by simp <;> omega) _) | refine Ext.trans ?_ (by assumption)))) (by have := HBE.out.1; omega)) ?_; rintro e w2 ⟨v, rfl, ho, hx⟩; have HO := Lib.hid (ho.mono (base' := W.heap.size) HX.out.size); have HX2 := Lib.hid (HX.out.trans (Ext.trans (by repeat (first | exact Ext.refl _ | assumption | refine Ext.alloc ?_ _ | refine Ext.drew ?_ | refine Ext.drewN ?_ _ | (refine Ext.setCell ?_ (by simp <;> omega) _) | refine Ext.trans ?_ (by assumption))) hx)); clear ho hx))
      go_ret
      exact ⟨_, rfl, by rw [← HS.out]; exact HO.out, HX2.out⟩
    case pos =>
      have HLT := Lib.hid hlt
      have iq : (q : Int) < (sd : Int) := by omega
      have HTS2 := Lib.hid (HTS.out hlt)
      have HTO2 := Lib.hid (HTO.out hlt)
      clear hlt
      go_upto_region 6 with fail
      have HGC := Lib.hid fun (W' : World) (hx : Ext w1 W') => CG.out W' q across (HC.out.ext (HX.out.trans hx)) HTS2.out HAC.out
      have HRB2 := Lib.hid (HLF.out : RLf w1 sA sl)
      have HLT2 : Hid ((if q < sd then turnedP (p.get r false q across) r ++ p.get r false a across else p.get r false a across) = turnedP (p.get r false q across) r ++ sl) := Lib.hid (by rw [if_pos HLT.out, ← HS.out])
      generalize (if q < sd then turnedP (p.get r false q across) r ++ p.get r false a across else p.get r false a across) = LR at *
      generalize p.get r false q across = L1 at *
      refine wp_region_rel [some (getV bb sb rb pb), some (.int .i64 (q : Int)), some (.int .i64 (across : Int)), none, some (.bool r), none, some (.slice sA sl.length sc), none, none, none] (PZ w1.heap.size L1 r ⟨sA, sc, sl⟩) w1 (by kernel_rfl) (by kernel_rfl) rfl (fun k v W W' h hx => PZ.ext h hx) (Ext.refl _) ⟨?_, ?_, ?_, ?_, ?_, ?_, ?_, ?_, ?_, ?_, trivial⟩ ?_
      · intro U W hx hR
        clear hR
        have c9 := (hx.cell (p := ⟨gb, 0, none⟩) gl).trans g0
        refine StepZ.go rfl ?_
        go_simp
        exact ⟨(by repeat (first | exact Ext.refl _ | assumption | refine Ext.alloc ?_ _ | refine Ext.drew ?_ | refine Ext.drewN ?_ _ | (refine Ext.setCell ?_ (by simp <;> omega) _) | refine Ext.trans ?_ (by assumption))), gives_k (by kernel_rfl)⟩
      · intro U W hx hR
        clear hR
        refine StepZ.go rfl ?_
        go_simp
        exact ⟨(by repeat (first | exact Ext.refl _ | assumption | refine Ext.alloc ?_ _ | refine Ext.drew ?_ | refine Ext.drewN ?_ _ | (refine Ext.setCell ?_ (by simp <;> omega) _) | refine Ext.trans ?_ (by assumption))), gives_k (by kernel_rfl)⟩
      · intro U W hx hR
        clear hR
        refine StepZ.go rfl ?_
        go_simp
        exact ⟨(by repeat (first | exact Ext.refl _ | assumption | refine Ext.alloc ?_ _ | refine Ext.drew ?_ | refine Ext.drewN ?_ _ | (refine Ext.setCell ?_ (by simp <;> omega) _) | refine Ext.trans ?_ (by assumption))), gives_k (by kernel_rfl)⟩
      · intro U W hx hR
        clear hR
        refine StepZ.go rfl ?_
        go_simp
        refine Calls.mono (HGC.out _ hx) ?_
        rintro e w' ⟨s, rfl, hs, hlf, hb⟩
        exact ⟨_, rfl, hb, gives_e (by kernel_rfl) ⟨s, rfl, hs, hlf⟩⟩
      · intro U W hx hR
        clear hR
        have c9 := (hx.cell (p := ⟨rb, 0, none⟩) rbl).trans r0
        refine StepZ.go rfl ?_
        go_simp
        exact ⟨(by repeat (first | exact Ext.refl _ | assumption | refine Ext.alloc ?_ _ | refine Ext.drew ?_ | refine Ext.drewN ?_ _ | (refine Ext.setCell ?_ (by simp <;> omega) _) | refine Ext.trans ?_ (by assumption))), gives_k (by kernel_rfl)⟩
      · intro U W hx hR
        obtain ⟨s3, e3, h3, r3⟩ : ∃ s : SLf, U 3 = s.val ∧ s.l = L1 ∧ RLf W s.A s.l := hR 3 (by decide) rfl
        clear hR
        obtain ⟨cA, cc, cl⟩ := s3
        simp only [SLf.val] at e3 h3 r3
        have h3' := Lib.hid h3
        clear h3
        refine StepZ.go rfl ?_
        go_simp
        refine Calls.mono (turned_any cA cc cl r W r3 (by rw [h3'.out]; have := HTO2.out.1; omega) (by rw [h3'.out]; exact HTO2.out.2)) ?_
        rintro e w' ⟨v, rfl, ho, hb⟩
        obtain ⟨A9, c9, rfl, _⟩ := ho.form (by rw [turnedP_len, h3'.out]; have := HTO2.out.1; omega)
        exact ⟨_, rfl, hb, gives_e (by kernel_rfl) ⟨⟨A9, c9, turnedP cl r⟩, rfl, by rw [h3'.out], ho.mono hx.size⟩⟩
      · intro U W hx hR
        clear hR
        refine StepZ.go rfl ?_
        go_simp
        exact ⟨(by repeat (first | exact Ext.refl _ | assumption | refine Ext.alloc ?_ _ | refine Ext.drew ?_ | refine Ext.drewN ?_ _ | (refine Ext.setCell ?_ (by simp <;> omega) _) | refine Ext.trans ?_ (by assumption))), gives_k (by kernel_rfl)⟩
      · intro U W hx hR
        obtain ⟨s5, e5, h5, r5⟩ : ∃ s : SLf, U 5 = s.val ∧ s.l = turnedP L1 r ∧ OLf W w1.heap.size s.val s.l := hR 5 (by decide) rfl
        clear hR
        obtain ⟨cA, cc, cl⟩ := s5
        simp only [SLf.val] at e5 h5 r5
        have h5' := Lib.hid h5
        clear h5
        refine StepZ.go rfl ?_
        go_simp
        exact ⟨(by repeat (first | exact Ext.refl _ | assumption | refine Ext.alloc ?_ _ | refine Ext.drew ?_ | refine Ext.drewN ?_ _ | (refine Ext.setCell ?_ (by simp <;> omega) _) | refine Ext.trans ?_ (by assumption))), gives_e (by kernel_rfl) ⟨W.heap.size, ⟨cA, cc, cl⟩, rfl, Blk.new _ _ _, h5'.out, RLf.ext (OLf.toR (s := ⟨cA, cc, cl⟩) r5 (by show cl.length ≤ 1000000; rw [h5'.out, turnedP_len]; have := HTO2.out.1; omega)) (by repeat (first | exact Ext.refl _ | assumption | refine Ext.alloc ?_ _ | refine Ext.drew ?_ | refine Ext.drewN ?_ _ | (refine Ext.setCell ?_ (by simp <;> omega) _) | refine Ext.trans ?_ (by assumption)))⟩⟩
      · intro U W hx hR
        obtain ⟨g7, s7, e7, b7, h7, r7⟩ : ∃ (g : Nat) (s : SLf), U 7 = .slice (some ⟨g, 0, none⟩) 2 2 ∧ Blk W g 86 #[s.val, SLf.val ⟨sA, sc, sl⟩] ∧ s.l = turnedP L1 r ∧ RLf W s.A s.l := hR 7 (by decide) rfl
        clear hR
        have h7' := Lib.hid h7
        have CC := Lib.hid (concatLf_any (some ⟨g7, 0, none⟩) 2 [s7, ⟨sA, sc, sl⟩] W (two_rpl b7 r7 (RLf.ext HRB2.out hx)) (by simp) (by
          show (0 + s7.l.length) + sl.length ≤ 1000000
          rw [h7, turnedP_len]
          have h1 := HTO2.out.1
          have h2 := HBE.out.1
          omega))
        clear h7 b7 r7
        refine StepZ.go rfl ?_
        go_simp
        refine Calls.mono CC.out ?_
        rintro e w' ⟨v, rfl, ho, hb⟩
        exact ⟨_, rfl, hb, gives_e (by kernel_rfl) (by
          have h9 := ho.mono (base' := w1.heap.size) hx.size
          have e9 : ctTo [s7, ⟨sA, sc, sl⟩] [s7, (⟨sA, sc, sl⟩ : SLf)].length = turnedP L1 r ++ sl := by
            show ([] ++ s7.l) ++ sl = _
            rw [h7'.out]; rfl
          rw [e9] at h9
          exact h9)⟩
      · intro U W hx hR
        have h8 : OLf W w1.heap.size (U 8) (turnedP L1 r ++ sl) := hR 8 (by decide) rfl
        clear hR
        refine StepZ.go rfl ?_
        go_simp
        exact ⟨(by repeat (first | exact Ext.refl _ | assumption | refine Ext.alloc ?_ _ | refine Ext.drew ?_ | refine Ext.drewN ?_ _ | (refine Ext.setCell ?_ (by simp <;> omega) _) | refine Ext.trans ?_ (by assumption))), gives_e (by kernel_rfl) h8⟩
      · intro U W2 hx hP
        have h9 : OLf W2 w1.heap.size (U 9) (turnedP L1 r ++ sl) := hP 9 (by decide) rfl
        have HO := Lib.hid (h9.mono (base' := W.heap.size) HX.out.size)
        have HX2 := Lib.hid (HX.out.trans hx)
        clear hP h9
        simp only [putAll, vu, Act.put, List.setIfInBounds_toArray, List.set_cons_zero, List.set_cons_succ]
        go_wp2
        go_ret
        exact ⟨_, rfl, by rw [HLT2.out]; exact HO.out, HX2.out⟩
  case true =>
    replace w2 := w2 rfl
    clear w3
    go_enter Try.func90, Try.ntmps90
    go_upto_region 4 with (first | (go_at_fn 89; refine Calls.mono (CG.out _ a across (HC.out.ext (by repeat (first | exact Ext.refl _ | assumption | refine Ext.alloc ?_ _ | refine Ext.drew ?_ | refine Ext.drewN ?_ _ | (refine Ext.setCell ?_ (by simp <;> omega) _) | refine Ext.trans ?_ (by assumption)))) HAS.out HAC.out) ?_; rintro e w1 ⟨⟨sA, sc, sl⟩, rfl, hs, hlf, hx⟩; simp only at hs; have HS := Lib.hid hs; simp only [SLf.val]; have HLF := Lib.hid hlf; have HX := Lib.hid (Ext.trans (by repeat (first | exact Ext.refl _ | assumption | refine Ext.alloc ?_ _ | refine Ext.drew ?_ | refine Ext.drewN ?_ _ | (refine Ext.setCell ?_ (by simp <;> omega) _) | refine Ext.trans ?_ (by assumption))) hx); clear hs hlf hx))
    rw [← HS.out] at HBE
    obtain ⟨f0, fl⟩ : w1.cell? ⟨fb, 0, none⟩ = some (.int .i64 (first : Int)) ∧ fb < w1.heap.size := ⟨((HC.out.ext HX.out).ft).cell 0 _ rfl, ((HC.out.ext HX.out).ft).lt⟩
    obtain ⟨g0, gl⟩ : w1.cell? ⟨gb, 0, none⟩ = some (getV bb sb rb pb) ∧ gb < w1.heap.size := ⟨(HGB.out.ext HX.out).cell 0 _ rfl, (HGB.out.ext HX.out).lt⟩
    obtain ⟨s0, sbl⟩ : w1.cell? ⟨sb, 0, none⟩ = some (.int .i64 (sd : Int)) ∧ sb < w1.heap.size := ⟨(HSB.out.ext HX.out).cell 0 _ rfl, (HSB.out.ext HX.out).lt⟩
    obtain ⟨r0, rbl⟩ : w1.cell? ⟨rb, 0, none⟩ = some (.bool r) ∧ rb < w1.heap.size := ⟨(HRB.out.ext HX.out).cell 0 _ rfl, (HRB.out.ext HX.out).lt⟩
    by_cases hlt : q < sd
    case neg =>
      have iq : ¬ (q : Int) < (sd : Int) := by omega
      clear hlt
      go_wp2_with (first | (go_at_call 88; refine Calls.mono (cloneLf_any _ _ sl _ (HLF.out.ext (by repeat (first | exact Ext.refl _ | assumption | refine Ext.alloc ?_ _ | refine Ext.drew ?_ | refine Ext.drewN ?_ _ | (refine Ext.setCell ?_ (by simp <;> omega) _) | refine Ext.trans ?_ (by assumption)))) (by have := HBE.out.1; omega)) ?_; rintro e w2 ⟨v, rfl, ho, hx⟩; have HO := Lib.hid (ho.mono (base' := W.heap.size) HX.out.size); have HX2 := Lib.hid (HX.out.trans (Ext.trans (by repeat (first | exact Ext.refl _ | assumption | refine Ext.alloc ?_ _ | refine Ext.drew ?_ | refine Ext.drewN ?_ _ | (refine Ext.setCell ?_ (by simp <;> omega) _) | refine Ext.trans ?_ (by assumption))) hx)); clear ho hx))
      go_ret
      exact ⟨_, rfl, by rw [← HS.out]; exact HO.out, HX2.out⟩
    case pos =>
      have HLT := Lib.hid hlt
      have iq : (q : Int) < (sd : Int) := by omega
      have HTS2 := Lib.hid (HTS.out hlt)
      have HTO2 := Lib.hid (HTO.out hlt)
      clear hlt
      go_upto_region 6 with fail
      have HGC := Lib.hid fun (W' : World) (hx : Ext w1 W') => CG.out W' q across (HC.out.ext (HX.out.trans hx)) HTS2.out HAC.out
      have HRB2 := Lib.hid (HLF.out : RLf w1 sA sl)
      have HLT2 : Hid ((if q < sd then turnedP (p.get r true q across) r ++ p.get r true a across else p.get r true a across) = turnedP (p.get r true q across) r ++ sl) := Lib.hid (by rw [if_pos HLT.out, ← HS.out])
      generalize (if q < sd then turnedP (p.get r true q across) r ++ p.get r true a across else p.get r true a across) = LR at *
      generalize p.get r true q across = L1 at *
      refine wp_region_rel [some (getV bb sb rb pb), some (.int .i64 (q : Int)), some (.int .i64 (across : Int)), none, some (.bool r), none, some (.slice sA sl.length sc), none, none, none] (PZ w1.heap.size L1 r ⟨sA, sc, sl⟩) w1 (by kernel_rfl) (by kernel_rfl) rfl (fun k v W W' h hx => PZ.ext h hx) (Ext.refl _) ⟨?_, ?_, ?_, ?_, ?_, ?_, ?_, ?_, ?_, ?_, trivial⟩ ?_
      · intro U W hx hR
        clear hR
        have c9 := (hx.cell (p := ⟨gb, 0, none⟩) gl).trans g0
        refine StepZ.go rfl ?_
        go_simp
        exact ⟨(by repeat (first | exact Ext.refl _ | assumption | refine Ext.alloc ?_ _ | refine Ext.drew ?_ | refine Ext.drewN ?_ _ | (refine Ext.setCell ?_ (by simp <;> omega) _) | refine Ext.trans ?_ (by assumption))), gives_k (by kernel_rfl)⟩
      · intro U W hx hR
        clear hR
        refine StepZ.go rfl ?_
        go_simp
        exact ⟨(by repeat (first | exact Ext.refl _ | assumption | refine Ext.alloc ?_ _ | refine Ext.drew ?_ | refine Ext.drewN ?_ _ | (refine Ext.setCell ?_ (by simp <;> omega) _) | refine Ext.trans ?_ (by assumption))), gives_k (by kernel_rfl)⟩
      · intro U W hx hR
        clear hR
        refine StepZ.go rfl ?_
        go_simp
        exact ⟨(by repeat (first | exact Ext.refl _ | assumption | refine Ext.alloc ?_ _ | refine Ext.drew ?_ | refine Ext.drewN ?_ _ | (refine Ext.setCell ?_ (by simp <;> omega) _) | refine Ext.trans ?_ (by assumption))), gives_k (by kernel_rfl)⟩
      · intro U W hx hR
        clear hR
        refine StepZ.go rfl ?_
        go_simp
        refine Calls.mono (HGC.out _ hx) ?_
        rintro e w' ⟨s, rfl, hs, hlf, hb⟩
        exact ⟨_, rfl, hb, gives_e (by kernel_rfl) ⟨s, rfl, hs, hlf⟩⟩
      · intro U W hx hR
        clear hR
        have c9 := (hx.cell (p := ⟨rb, 0, none⟩) rbl).trans r0
        refine StepZ.go rfl ?_
        go_simp
        exact ⟨(by repeat (first | exact Ext.refl _ | assumption | refine Ext.alloc ?_ _ | refine Ext.drew ?_ | refine Ext.drewN ?_ _ | (refine Ext.setCell ?_ (by simp <;> omega) _) | refine Ext.trans ?_ (by assumption))), gives_k (by kernel_rfl)⟩
      · intro U W hx hR
        obtain ⟨s3, e3, h3, r3⟩ : ∃ s : SLf, U 3 = s.val ∧ s.l = L1 ∧ RLf W s.A s.l := hR 3 (by decide) rfl
        clear hR
        obtain ⟨cA, cc, cl⟩ := s3
        simp only [SLf.val] at e3 h3 r3
        have h3' := Lib.hid h3
        clear h3
        refine StepZ.go rfl ?_
        go_simp
        refine Calls.mono (turned_any cA cc cl r W r3 (by rw [h3'.out]; have := HTO2.out.1; omega) (by rw [h3'.out]; exact HTO2.out.2)) ?_
        rintro e w' ⟨v, rfl, ho, hb⟩
        obtain ⟨A9, c9, rfl, _⟩ := ho.form (by rw [turnedP_len, h3'.out]; have := HTO2.out.1; omega)
        exact ⟨_, rfl, hb, gives_e (by kernel_rfl) ⟨⟨A9, c9, turnedP cl r⟩, rfl, by rw [h3'.out], ho.mono hx.size⟩⟩
      · intro U W hx hR
        clear hR
        refine StepZ.go rfl ?_
        go_simp
        exact ⟨(by repeat (first | exact Ext.refl _ | assumption | refine Ext.alloc ?_ _ | refine Ext.drew ?_ | refine Ext.drewN ?_ _ | (refine Ext.setCell ?_ (by simp <;> omega) _) | refine Ext.trans ?_ (by assumption))), gives_k (by kernel_rfl)⟩
      · intro U W hx hR
        obtain ⟨s5, e5, h5, r5⟩ : ∃ s : SLf, U 5 = s.val ∧ s.l = turnedP L1 r ∧ OLf W w1.heap.size s.val s.l := hR 5 (by decide) rfl
        clear hR
        obtain ⟨cA, cc, cl⟩ := s5
        simp only [SLf.val] at e5 h5 r5
        have h5' := Lib.hid h5
        clear h5
        refine StepZ.go rfl ?_
        go_simp
        exact ⟨(by repeat (first | exact Ext.refl _ | assumption | refine Ext.alloc ?_ _ | refine Ext.drew ?_ | refine Ext.drewN ?_ _ | (refine Ext.setCell ?_ (by simp <;> omega) _) | refine Ext.trans ?_ (by assumption))), gives_e (by kernel_rfl) ⟨W.heap.size, ⟨cA, cc, cl⟩, rfl, Blk.new _ _ _, h5'.out, RLf.ext (OLf.toR (s := ⟨cA, cc, cl⟩) r5 (by show cl.length ≤ 1000000; rw [h5'.out, turnedP_len]; have := HTO2.out.1; omega)) (by repeat (first | exact Ext.refl _ | assumption | refine Ext.alloc ?_ _ | refine Ext.drew ?_ | refine Ext.drewN ?_ _ | (refine Ext.setCell ?_ (by simp <;> omega) _) | refine Ext.trans ?_ (by assumption)))⟩⟩
      · intro U W hx hR
        obtain ⟨g7, s7, e7, b7, h7, r7⟩ : ∃ (g : Nat) (s : SLf), U 7 = .slice (some ⟨g, 0, none⟩) 2 2 ∧ Blk W g 86 #[s.val, SLf.val ⟨sA, sc, sl⟩] ∧ s.l = turnedP L1 r ∧ RLf W s.A s.l := hR 7 (by decide) rfl
        clear hR
        have h7' := Lib.hid h7
        have CC := Lib.hid (concatLf_any (some ⟨g7, 0, none⟩) 2 [s7, ⟨sA, sc, sl⟩] W (two_rpl b7 r7 (RLf.ext HRB2.out hx)) (by simp) (by
          show (0 + s7.l.length) + sl.length ≤ 1000000
          rw [h7, turnedP_len]
          have h1 := HTO2.out.1
          have h2 := HBE.out.1
          omega))
        clear h7 b7 r7
        refine StepZ.go rfl ?_
        go_simp
        refine Calls.mono CC.out ?_
        rintro e w' ⟨v, rfl, ho, hb⟩
        exact ⟨_, rfl, hb, gives_e (by kernel_rfl) (by
          have h9 := ho.mono (base' := w1.heap.size) hx.size
          have e9 : ctTo [s7, ⟨sA, sc, sl⟩] [s7, (⟨sA, sc, sl⟩ : SLf)].length = turnedP L1 r ++ sl := by
            show ([] ++ s7.l) ++ sl = _
            rw [h7'.out]; rfl
          rw [e9] at h9
          exact h9)⟩
      · intro U W hx hR
        have h8 : OLf W w1.heap.size (U 8) (turnedP L1 r ++ sl) := hR 8 (by decide) rfl
        clear hR
        refine StepZ.go rfl ?_
        go_simp
        exact ⟨(by repeat (first | exact Ext.refl _ | assumption | refine Ext.alloc ?_ _ | refine Ext.drew ?_ | refine Ext.drewN ?_ _ | (refine Ext.setCell ?_ (by simp <;> omega) _) | refine Ext.trans ?_ (by assumption))), gives_e (by kernel_rfl) h8⟩
      · intro U W2 hx hP
        have h9 : OLf W2 w1.heap.size (U 9) (turnedP L1 r ++ sl) := hP 9 (by decide) rfl
        have HO := Lib.hid (h9.mono (base' := W.heap.size) HX.out.size)
        have HX2 := Lib.hid (HX.out.trans hx)
        clear hP h9
        simp only [putAll, vu, Act.put, List.setIfInBounds_toArray, List.set_cons_zero, List.set_cons_succ]
        go_wp2
        go_ret
        exact ⟨_, rfl, by rw [HLT2.out]; exact HO.out, HX2.out⟩
end Go.Proofs.Ytniiahddpdiocaa
