/-
  Walks of the reference: FoldErr; what holds in a region that calls, then stores once.
-/
import Derived.Test.YtniiahddpdiocaaFoldR4
namespace Go.Proofs.Ytniiahddpdiocaa
open Go.RowKit

set_option maxRecDepth 100000 in
set_option maxHeartbeats 4000000 in
theorem rFoldErr_any (C R : Nat) (k n : Int) (w : World) (hC : C ≤ 8) (hR : R ≤ 8) (hn : I64 n) :
    Calls Try.prog 58 #[.int .i64 (C : Int), .int .i64 (R : Int), .agg #[.int .i64 k, .int .i64 n]] w (Ret (.int .i64 (foldE C R k n)) w) := by
  have hn1 := hn.1; have hn2 := hn.2
  have hdC : (C : Int).tdiv 2 = ((C / 2 : Nat) : Int) := (Int.ofNat_tdiv C 2).symm
  have hdR : (R : Int).tdiv 2 = ((R / 2 : Nat) : Int) := (Int.ofNat_tdiv R 2).symm
  by_cases hk : 1 ≤ k ∧ k ≤ 6
  case neg =>
    have HE : Hid (foldE C R k n = 15) := Lib.hid (by unfold foldE; rw [if_pos hk])
    go_enter Try.func58, Try.ntmps58
    go_wp2_with (first | (go_at_call 6; refine Calls.mono (bWi_yes _ _ _ _ ?_) ?_; (omega); rintro e w1 ⟨rfl, rfl⟩) | (go_at_call 6; refine Calls.mono (bWi_no _ _ _ _ ?_) ?_; (omega); rintro e w1 ⟨rfl, rfl⟩))
    go_ret
    exact Ret.mk' (by rw [HE.out]; rfl) (by repeat (first | exact Ext.refl _ | assumption | refine Ext.alloc ?_ _ | refine Ext.drew ?_ | refine Ext.drewN ?_ _ | (refine Ext.setCell ?_ (by simp <;> omega) _) | refine Ext.trans ?_ (by assumption)))
  case pos =>
  by_cases ht : k = 5 ∨ k = 6
  case pos =>
    by_cases hn0 : n = 0
    case pos =>
      subst hn0
      have HE : Hid (foldE C R k 0 = 0) := Lib.hid (by unfold foldE; rw [if_neg (by omega), if_pos ht, if_pos rfl])
      have ik : 5 ≤ k := by omega
      go_enter Try.func58, Try.ntmps58
      go_wp2_with (first | (go_at_call 6; refine Calls.mono (bWi_yes _ _ _ _ ?_) ?_; (omega); rintro e w1 ⟨rfl, rfl⟩) | (go_at_call 6; refine Calls.mono (bWi_no _ _ _ _ ?_) ?_; (omega); rintro e w1 ⟨rfl, rfl⟩))
      go_ret
      exact Ret.mk' (by rw [HE.out]; rfl) (by repeat (first | exact Ext.refl _ | assumption | refine Ext.alloc ?_ _ | refine Ext.drew ?_ | refine Ext.drewN ?_ _ | (refine Ext.setCell ?_ (by simp <;> omega) _) | refine Ext.trans ?_ (by assumption)))
    case neg =>
      have HE : Hid (foldE C R k n = 2) := Lib.hid (by unfold foldE; rw [if_neg (by omega), if_pos ht, if_neg hn0])
      have en : (n != 0) = true := by simpa using hn0
      have ik : 5 ≤ k := by omega
      clear hn0
      go_enter Try.func58, Try.ntmps58
      go_wp2_with (first | (go_at_call 6; refine Calls.mono (bWi_yes _ _ _ _ ?_) ?_; (omega); rintro e w1 ⟨rfl, rfl⟩) | (go_at_call 6; refine Calls.mono (bWi_no _ _ _ _ ?_) ?_; (omega); rintro e w1 ⟨rfl, rfl⟩))
      go_ret
      exact Ret.mk' (by rw [HE.out]; rfl) (by repeat (first | exact Ext.refl _ | assumption | refine Ext.alloc ?_ _ | refine Ext.drew ?_ | refine Ext.drewN ?_ _ | (refine Ext.setCell ?_ (by simp <;> omega) _) | refine Ext.trans ?_ (by assumption)))
  case neg =>
  have ik : ¬ 5 ≤ k := by omega
  by_cases hn0 : n < 1
  case pos =>
    have HE : Hid (foldE C R k n = 2) := Lib.hid (by unfold foldE; rw [if_neg (by omega), if_neg ht, if_pos hn0])
    go_enter Try.func58, Try.ntmps58
    go_wp2_with (first | (go_at_call 6; refine Calls.mono (bWi_yes _ _ _ _ ?_) ?_; (omega); rintro e w1 ⟨rfl, rfl⟩) | (go_at_call 6; refine Calls.mono (bWi_no _ _ _ _ ?_) ?_; (omega); rintro e w1 ⟨rfl, rfl⟩))
    go_ret
    exact Ret.mk' (by rw [HE.out]; rfl) (by repeat (first | exact Ext.refl _ | assumption | refine Ext.alloc ?_ _ | refine Ext.drew ?_ | refine Ext.drewN ?_ _ | (refine Ext.setCell ?_ (by simp <;> omega) _) | refine Ext.trans ?_ (by assumption)))
  case neg =>
  by_cases hs : k = 3 ∨ k = 4
  case pos =>
    have i3 : 3 ≤ k := by omega
    have hsd : sideOf C R k = R := if_pos hs
    obtain ⟨h2, hh2⟩ : ∃ h2, h2 = R / 2 := ⟨_, rfl⟩
    rw [← hh2] at hdR
    have hw2 : IntKind.i64.wrap (h2 : Int) = (h2 : Int) := IntWalk.i64_in _ (by omega)
    by_cases hbr : (R : Int) - n < n
    case pos =>
      have HE : Hid (foldE C R k n = 26) := Lib.hid (by unfold foldE; rw [if_neg (by omega), if_neg ht, if_neg hn0, hsd, if_pos hbr])
      have ih : (h2 : Int) < n := by omega
      clear hh2 hs ht
      go_enter Try.func58, Try.ntmps58
      go_wp2_with (first | (go_at_call 6; refine Calls.mono (bWi_yes _ _ _ _ ?_) ?_; (omega); rintro e w1 ⟨rfl, rfl⟩) | (go_at_call 6; refine Calls.mono (bWi_no _ _ _ _ ?_) ?_; (omega); rintro e w1 ⟨rfl, rfl⟩))
      go_ret
      exact Ret.mk' (by rw [HE.out]; rfl) (by repeat (first | exact Ext.refl _ | assumption | refine Ext.alloc ?_ _ | refine Ext.drew ?_ | refine Ext.drewN ?_ _ | (refine Ext.setCell ?_ (by simp <;> omega) _) | refine Ext.trans ?_ (by assumption)))
    case neg =>
      have HE : Hid (foldE C R k n = 0) := Lib.hid (by unfold foldE; rw [if_neg (by omega), if_neg ht, if_neg hn0, hsd, if_neg hbr])
      have ih : ¬ (h2 : Int) < n := by omega
      clear hh2 hs ht
      go_enter Try.func58, Try.ntmps58
      go_wp2_with (first | (go_at_call 6; refine Calls.mono (bWi_yes _ _ _ _ ?_) ?_; (omega); rintro e w1 ⟨rfl, rfl⟩) | (go_at_call 6; refine Calls.mono (bWi_no _ _ _ _ ?_) ?_; (omega); rintro e w1 ⟨rfl, rfl⟩))
      go_ret
      exact Ret.mk' (by rw [HE.out]; rfl) (by repeat (first | exact Ext.refl _ | assumption | refine Ext.alloc ?_ _ | refine Ext.drew ?_ | refine Ext.drewN ?_ _ | (refine Ext.setCell ?_ (by simp <;> omega) _) | refine Ext.trans ?_ (by assumption)))
  case neg =>
    have i3 : ¬ 3 ≤ k := by omega
    have hsd : sideOf C R k = C := if_neg hs
    obtain ⟨h2, hh2⟩ : ∃ h2, h2 = C / 2 := ⟨_, rfl⟩
    rw [← hh2] at hdC
    have hw2 : IntKind.i64.wrap (h2 : Int) = (h2 : Int) := IntWalk.i64_in _ (by omega)
    by_cases hbr : (C : Int) - n < n
    case pos =>
      have HE : Hid (foldE C R k n = 26) := Lib.hid (by unfold foldE; rw [if_neg (by omega), if_neg ht, if_neg hn0, hsd, if_pos hbr])
      have ih : (h2 : Int) < n := by omega
      clear hh2 hs ht
      go_enter Try.func58, Try.ntmps58
      go_wp2_with (first | (go_at_call 6; refine Calls.mono (bWi_yes _ _ _ _ ?_) ?_; (omega); rintro e w1 ⟨rfl, rfl⟩) | (go_at_call 6; refine Calls.mono (bWi_no _ _ _ _ ?_) ?_; (omega); rintro e w1 ⟨rfl, rfl⟩))
      go_ret
      exact Ret.mk' (by rw [HE.out]; rfl) (by repeat (first | exact Ext.refl _ | assumption | refine Ext.alloc ?_ _ | refine Ext.drew ?_ | refine Ext.drewN ?_ _ | (refine Ext.setCell ?_ (by simp <;> omega) _) | refine Ext.trans ?_ (by assumption)))
    case neg =>
      have HE : Hid (foldE C R k n = 0) := Lib.hid (by unfold foldE; rw [if_neg (by omega), if_neg ht, if_neg hn0, hsd, if_neg hbr])
      have ih : ¬ (h2 : Int) < n := by omega
      clear hh2 hs ht
      go_enter Try.func58, Try.ntmps58
      go_wp2_with (first | (go_at_call 6; refine Calls.mono (bWi_yes _ _ _ _ ?_) ?_; (omega); rintro e w1 ⟨rfl, rfl⟩) | (go_at_call 6; refine Calls.mono (bWi_no _ _ _ _ ?_) ?_; (omega); rintro e w1 ⟨rfl, rfl⟩))
      go_ret
      exact Ret.mk' (by rw [HE.out]; rfl) (by repeat (first | exact Ext.refl _ | assumption | refine Ext.alloc ?_ _ | refine Ext.drew ?_ | refine Ext.drewN ?_ _ | (refine Ext.setCell ?_ (by simp <;> omega) _) | refine Ext.trans ?_ (by assumption)))
/-- What is known in a region that calls, then stores. -/
structure QG (w0 : World) (Pc : Nat → Value → World → Prop) (D : World → Prop) (cs : List Nat) (last : Nat) (kv : List Value) (V : Vs) (W : World) : Prop where
  len : V.length = last + 1
  kn : ∀ j x, j ∉ cs → j ≠ last → V.getD j none = some x → x = kv.getD j undef
  a : V.getD last none = none → Ext w0 W
  pc : ∀ j, j ∈ cs → ∀ x, V.getD j none = some x → V.getD last none = none → Pc j x W
  d : ∀ y, V.getD last none = some y → D W
section
variable {w0 W W' : World} {Pc : Nat → Value → World → Prop} {D : World → Prop} {last : Nat} {cs : List Nat} {kv : List Value} {V : Vs}
theorem QG.start (h : Ext w0 W) : QG w0 Pc D cs last kv (List.replicate (last + 1) none) W :=
  ⟨by simp, fun j x _ _ e => (by rw [rep_none] at e; cases e), fun _ => h, fun j _ x e => (by rw [rep_none] at e; cases e), fun y e => (by rw [rep_none] at e; cases e)⟩
theorem QG.known (h : QG w0 Pc D cs last kv V W) (j : Nat) (hj : j ∉ cs) (hj2 : j ≠ last) (hj3 : j < last) : QG w0 Pc D cs last kv (V.set j (some (kv.getD j undef))) W := by
  refine ⟨by rw [List.length_set]; exact h.len, fun k x hk hk2 e => ?_, fun e => ?_, fun k hk x e e2 => ?_, fun y e => ?_⟩
  · by_cases hkj : k = j
    · subst hkj
      rw [getD_set_eq (by rw [h.len]; omega)] at e
      cases e; rfl
    · rw [getD_set_ne hkj] at e; exact h.kn k x hk hk2 e
  · rw [getD_set_ne (fun e => hj2 e.symm)] at e; exact h.a e
  · rw [getD_set_ne (fun e => hj2 e.symm)] at e2
    have hkj : k ≠ j := fun e => hj (e ▸ hk)
    rw [getD_set_ne hkj] at e
    exact h.pc k hk x e e2
  · rw [getD_set_ne (fun e => hj2 e.symm)] at e; exact h.d y e
theorem QG.call (h : QG w0 Pc D cs last kv V W) (j : Nat) (hj : j ∈ cs) (hj3 : j < last) (hl : V.getD last none = none) (hx : Ext W W') (hm : ∀ k x, Pc k x W → Pc k x W') (u : Value) (hu : Pc j u W') : QG w0 Pc D cs last kv (V.set j (some u)) W' := by
  have hj2 : last ≠ j := by omega
  refine ⟨by rw [List.length_set]; exact h.len, fun k x hk hk2 e => ?_, fun e => ?_, fun k hk x e e2 => ?_, fun y e => ?_⟩
  · have hkj : k ≠ j := fun e => hk (e ▸ hj)
    rw [getD_set_ne hkj] at e; exact h.kn k x hk hk2 e
  · exact (h.a hl).trans hx
  · by_cases hkj : k = j
    · subst hkj
      rw [getD_set_eq (by rw [h.len]; omega)] at e
      cases e; exact hu
    · rw [getD_set_ne hkj] at e
      exact hm k x (h.pc k hk x e hl)
  · rw [getD_set_ne hj2, hl] at e; cases e
theorem QG.store (h : QG w0 Pc D cs last kv V W) (hd : D W') (y : Value) : QG w0 Pc D cs last kv (V.set last (some y)) W' := by
  have hlt : last < V.length := by rw [h.len]; omega
  refine ⟨by rw [List.length_set]; exact h.len, fun k x hk hk2 e => ?_, fun e => ?_, fun k hk x e e2 => ?_, fun y e => hd⟩
  · rw [getD_set_ne hk2] at e; exact h.kn k x hk hk2 e
  · rw [getD_set_eq hlt] at e; cases e
  · rw [getD_set_eq hlt] at e2; cases e2
end
theorem qlen7 {α : Type} {V : List α} (h : V.length = 7) : ∃ a0 a1 a2 a3 a4 a5 a6, V = [a0, a1, a2, a3, a4, a5, a6] := by
  match V, h with
  | [a0, a1, a2, a3, a4, a5, a6], _ => exact ⟨a0, a1, a2, a3, a4, a5, a6, rfl⟩
/-- A heap's value in memory. -/
def HvAt (base C R B : Nat) (x : Value) (W : World) : Prop := ∃ A d rows, x = .agg #[.int .i64 (C : Int), .int .i64 (R : Int), .slice A (List.length rows) d] ∧ rows.length = R * C ∧ HO W base B (.slice A (List.length rows) d) rows
theorem HvAt.ext {base C R B : Nat} {x : Value} {W W' : World} (h : HvAt base C R B x W) (hx : Ext W W') : HvAt base C R B x W' := by
  obtain ⟨A, d, rows, h1, h2, h3⟩ := h; exact ⟨A, d, rows, h1, h2, h3.ext hx⟩
/-- A heap laid into cells of one's own. -/
def HvIn (w : World) (qb C R B : Nat) (W : World) : Prop := ∃ A d rows, rows.length = R * C ∧ HO W (qb + 1) B (.slice A (List.length rows) d) rows ∧ Blk W qb 94 #[.int .i64 (C : Int), .int .i64 (R : Int), .slice A (List.length rows) d] ∧ Ext w W
theorem HvIn.of {w W : World} {qb base C R B : Nat} {A : Option Addr} {d : Nat} {rows : List SLf} {v0 v1 v2 : Value} (hw : w.heap.size ≤ qb) (hx : Ext w W) (hb : Blk W qb 94 #[v0, v1, v2]) (hln : rows.length = R * C) (ho : HO W base B (.slice A rows.length d) rows) (hbs : qb < base) :
    HvIn w qb C R B (((W.setCell ⟨qb, 0, none⟩ (.int .i64 (C : Int))).setCell ⟨qb, 1, none⟩ (.int .i64 (R : Int))).setCell ⟨qb, 2, none⟩ (.slice A rows.length d)) :=
  ⟨A, d, rows, hln, (ho.far3 hbs (by decide) hb _ _ _).mono hbs, ((hb.set_ 0 _).set_ 1 _).set_ 2 _, setCell3 hx hw _ _ _⟩
theorem HO.more {w : World} {base B B' : Nat} {v : Value} {rows : List SLf} (h : HO w base B v rows) (hb : B ≤ B') : HO w base B' v rows := ⟨h.own, fun s hs => ⟨(h.mem s hs).1, Nat.le_trans (h.mem s hs).2 hb⟩⟩
end Go.Proofs.Ytniiahddpdiocaa
