/-
  Walk: the closure of Deciding.
-/
import Derived.Test.YtccdnieoaejgdaaGreatDoorT2AX
set_option linter.unusedVariables false
set_option linter.unusedSimpArgs false
set_option linter.unusedSectionVars false
namespace Go.Proofs.YtccdnieoaejgdaaGreatDoor
open Go.RowKit Go.Lib

/-- What Deciding's closure has caught: the word, the place, the level. -/
structure DcH (W : World) (sb ib lb : Nat) (s : ByteArray) (i : Nat) (lv : Int) : Prop where
  s : W.cell? ⟨sb, 0, none⟩ = some (.string s) ∧ sb < W.heap.size
  i : W.cell? ⟨ib, 0, none⟩ = some (.int .i64 (i : Int)) ∧ ib < W.heap.size
  l : W.cell? ⟨lb, 0, none⟩ = some (.int .i64 lv) ∧ lb < W.heap.size
theorem DcH.ext {w w' : World} {sb ib lb : Nat} {s : ByteArray} {i : Nat} {lv : Int} (h : DcH w sb ib lb s i lv) (hx : Ext w w') : DcH w' sb ib lb s i lv :=
  ⟨⟨(hx.cell (p := ⟨sb, 0, none⟩) h.s.2).trans h.s.1, Nat.lt_of_lt_of_le h.s.2 hx.size⟩, ⟨(hx.cell (p := ⟨ib, 0, none⟩) h.i.2).trans h.i.1, Nat.lt_of_lt_of_le h.i.2 hx.size⟩, ⟨(hx.cell (p := ⟨lb, 0, none⟩) h.l.2).trans h.l.1, Nat.lt_of_lt_of_le h.l.2 hx.size⟩⟩
/-- A slice of numbers is one in memory where it is not empty. -/
def RetAt (n i : Nat) (x : Int) (w : World) (e : Ending) (w' : World) : Prop := ∃ b off c, e = .returned (.slice (some ⟨b, off, none⟩) n c) ∧ b < w'.heap.size ∧ w'.cell? ⟨b, off + i, none⟩ = some (.int .i64 x) ∧ Ext w w'
theorem RetS.at_ {zs : List Int} {w w' : World} {e : Ending} {i : Nat} (hi : i < zs.length) (h : RetS zs w e w') : RetAt zs.length i (zs.getD i 0) w e w' := by
  obtain ⟨A, c, he, hs, hx⟩ := h
  obtain ⟨b, off, rfl, hl, hc⟩ := hs.ri.2.2 (by omega)
  exact ⟨b, off, c, he, hl, hc i hi, hx⟩
attribute [local go_sem] stateAt vu known List.map_cons List.map_nil Option.getD_some
set_option maxRecDepth 100000 in
set_option maxHeartbeats 4000000 in
theorem deciding1_any (q : Pat) (p : Nat) (s : ByteArray) (i : Nat) (lv : Int) (sb ib lb : Nat) (w : World) (hq : q.Ok) (hs : s.size ≤ 100) (hi : i ≤ s.size) (hc : DcH w sb ib lb s i lv) (hp : PatR w 0 p q) :
    Calls Tryz.prog 82 #[.pointer (some ⟨p, 0, none⟩), .pointer (some ⟨sb, 0, none⟩), .pointer (some ⟨ib, 0, none⟩), .pointer (some ⟨lb, 0, none⟩)] w (Ret (.bool (decide (lvIn q (low s.data.toList) i = lv))) w) := by
  have CS := Lib.hid fun W => small_any s W (by omega)
  change Hid (∀ W, Calls Tryz.prog 84 #[.string s] W (Ret (.string (strL (low s.data.toList))) W)) at CS
  have hll : (low s.data.toList).length = s.size := by rw [low_len]; simp
  have hln : (lvListIn q (low s.data.toList)).length = s.size + 1 := by unfold lvListIn; rw [List.length_map, List.length_range, hll]
  have CIN : Hid (∀ W, Ext w W → Calls Tryz.prog 83 #[.pointer (some ⟨p, 0, none⟩), .string (strL (low s.data.toList))] W (RetAt (s.size + 1) i (lvIn q (low s.data.toList) i) W)) := Lib.hid fun W hx => by
    obtain ⟨A, c, hb, hl⟩ := (hp.ext hx).ex
    have h := in_any q p (strL (low s.data.toList)) W hq (by rw [strL_size, hll]; exact hs) A c hb hl.ri
    rw [strL_list] at h
    refine h.mono fun e w' h => ?_
    have h2 := RetS.at_ (i := i) (by rw [hln]; omega) h
    rwa [hln, lvListIn_at q _ (by rw [hll]; exact hi)] at h2
  have hn : s.size + 1 ≤ 9223372036854775807 := by omega
  have hin : (i : Int) < (s.size : Int) + 1 := by omega
  have hin2 : i < s.size + 1 := by omega
  generalize lvIn q (low s.data.toList) i = x at *
  clear hln hll hq hp
  go_enter Tryz.func82, Tryz.ntmps82
  go_upto_region 1 with fail
  refine wp_region_rel [some (.pointer (some ⟨p, 0, none⟩)), some (.string s), some (.string (strL (low s.data.toList))), none, some (.int .i64 (i : Int)), none, some (.int .i64 x), some (.int .i64 lv), some (.bool (decide (x = lv))), some (.bool (decide (x = lv)))] (fun k v W => (k = 3 → (fun (v : Value) (W : World) => ∃ b off c, v = .slice (some ⟨b, off, none⟩) (s.size + 1) c ∧ b < W.heap.size ∧ W.cell? ⟨b, off + i, none⟩ = some (.int .i64 x)) v W) ∧ (k = 5 → (fun (v : Value) (W : World) => ∃ b off, v = .pointer (some ⟨b, off + i, none⟩) ∧ b < W.heap.size ∧ W.cell? ⟨b, off + i, none⟩ = some (.int .i64 x)) v W)) w (by kernel_rfl) (by kernel_rfl) rfl (fun k v W W' h hx => ⟨fun e => let ⟨b, off, c, h1, h2, h3⟩ := (h.1 e); ⟨b, off, c, h1, Nat.lt_of_lt_of_le h2 hx.size, (hx.cell (p := ⟨b, off + i, none⟩) h2).trans h3⟩, fun e => let ⟨b, off, h1, h2, h3⟩ := (h.2 e); ⟨b, off, h1, Nat.lt_of_lt_of_le h2 hx.size, (hx.cell (p := ⟨b, off + i, none⟩) h2).trans h3⟩⟩) (Ext.refl _) ⟨?_, ?_, ?_, ?_, ?_, ?_, ?_, ?_, ?_, ?_, trivial⟩ ?_
  · intro U W hx hR
    clear hR
    refine StepZ.go rfl ?_
    go_simp
    exact ⟨(by repeat (first | exact Ext.refl _ | assumption | refine Ext.alloc ?_ _ | refine Ext.drew ?_ | refine Ext.drewN ?_ _ | (refine Ext.setCell ?_ (by simp <;> omega) _) | refine Ext.trans ?_ (by assumption))), gives_k (by kernel_rfl)⟩
  · intro U W hx hR
    clear hR
    have y1 := (hx.cell (p := ⟨sb, 0, none⟩) hc.s.2).trans hc.s.1; have l1 := Nat.lt_of_lt_of_le hc.s.2 hx.size
    refine StepZ.go rfl ?_
    go_simp
    exact ⟨(by repeat (first | exact Ext.refl _ | assumption | refine Ext.alloc ?_ _ | refine Ext.drew ?_ | refine Ext.drewN ?_ _ | (refine Ext.setCell ?_ (by simp <;> omega) _) | refine Ext.trans ?_ (by assumption))), gives_k (by kernel_rfl)⟩
  · intro U W hx hR
    clear hR
    refine StepZ.go rfl ?_
    go_simp
    refine Calls.mono (CS.out _) ?_; rintro e w1 ⟨rfl, hb⟩; exact ⟨_, rfl, hb, gives_k (by kernel_rfl)⟩
  · intro U W hx hR
    clear hR
    refine StepZ.go rfl ?_
    go_simp
    refine Calls.mono (CIN.out _ hx) ?_; rintro e w1 ⟨b, off, c, rfl, h2, h3, hb⟩; exact ⟨_, rfl, hb, gives_e (by kernel_rfl) ⟨fun _ => ⟨b, off, ⟨c, rfl⟩, h2, h3⟩, fun e => absurd e (by decide)⟩⟩
  · intro U W hx hR
    clear hR
    have y1 := (hx.cell (p := ⟨ib, 0, none⟩) hc.i.2).trans hc.i.1; have l1 := Nat.lt_of_lt_of_le hc.i.2 hx.size
    refine StepZ.go rfl ?_
    go_simp
    exact ⟨(by repeat (first | exact Ext.refl _ | assumption | refine Ext.alloc ?_ _ | refine Ext.drew ?_ | refine Ext.drewN ?_ _ | (refine Ext.setCell ?_ (by simp <;> omega) _) | refine Ext.trans ?_ (by assumption))), gives_k (by kernel_rfl)⟩
  · intro U W hx hR
    have r3 := (hR 3 (by decide) (by kernel_rfl)).1 rfl; obtain ⟨b3, o3, c3, e3_, l3, m3⟩ := r3
    clear hR
    (try rw [e3_])
    refine StepZ.go rfl ?_
    go_simp
    exact ⟨Ext.refl _, gives_e (by kernel_rfl) ⟨fun e => absurd e (by decide), fun _ => ⟨b3, o3, rfl, l3, m3⟩⟩⟩
  · intro U W hx hR
    have r5 := (hR 5 (by decide) (by kernel_rfl)).2 rfl; obtain ⟨b5, o5, e5_, l5, m5⟩ := r5
    clear hR
    (try rw [e5_])
    refine StepZ.go rfl ?_
    go_simp
    exact ⟨(by repeat (first | exact Ext.refl _ | assumption | refine Ext.alloc ?_ _ | refine Ext.drew ?_ | refine Ext.drewN ?_ _ | (refine Ext.setCell ?_ (by simp <;> omega) _) | refine Ext.trans ?_ (by assumption))), gives_k (by kernel_rfl)⟩
  · intro U W hx hR
    clear hR
    have y1 := (hx.cell (p := ⟨lb, 0, none⟩) hc.l.2).trans hc.l.1; have l1 := Nat.lt_of_lt_of_le hc.l.2 hx.size
    refine StepZ.go rfl ?_
    go_simp
    exact ⟨(by repeat (first | exact Ext.refl _ | assumption | refine Ext.alloc ?_ _ | refine Ext.drew ?_ | refine Ext.drewN ?_ _ | (refine Ext.setCell ?_ (by simp <;> omega) _) | refine Ext.trans ?_ (by assumption))), gives_k (by kernel_rfl)⟩
  · intro U W hx hR
    clear hR
    refine StepZ.go rfl ?_
    go_simp
    exact ⟨(by repeat (first | exact Ext.refl _ | assumption | refine Ext.alloc ?_ _ | refine Ext.drew ?_ | refine Ext.drewN ?_ _ | (refine Ext.setCell ?_ (by simp <;> omega) _) | refine Ext.trans ?_ (by assumption))), gives_k (by kernel_rfl)⟩
  · intro U W hx hR
    clear hR
    refine StepZ.go rfl ?_
    go_simp
    exact ⟨(by repeat (first | exact Ext.refl _ | assumption | refine Ext.alloc ?_ _ | refine Ext.drew ?_ | refine Ext.drewN ?_ _ | (refine Ext.setCell ?_ (by simp <;> omega) _) | refine Ext.trans ?_ (by assumption))), gives_k (by kernel_rfl)⟩
  · intro U W hx hR
    have r3 := (hR 3 (by decide) (by kernel_rfl)).1 rfl; obtain ⟨b3, o3, c3, e3_, l3, m3⟩ := r3
    have r5 := (hR 5 (by decide) (by kernel_rfl)).2 rfl; obtain ⟨b5, o5, e5_, l5, m5⟩ := r5
    clear hR
    simp only [putAll, vu, Act.put, List.setIfInBounds_toArray, List.set_cons_zero, List.set_cons_succ]
    (try simp only [e3_])
    (try simp only [e5_])
    go_wp2
    go_ret
    exact ⟨rfl, hx⟩
end Go.Proofs.YtccdnieoaejgdaaGreatDoor
