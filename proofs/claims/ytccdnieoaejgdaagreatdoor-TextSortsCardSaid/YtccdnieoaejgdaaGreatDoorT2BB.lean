/-
  Walk: the fewest sorts of a word (the printer's fewest).
-/
import Derived.Test.YtccdnieoaejgdaaGreatDoorT2BA
set_option linter.unusedVariables false
set_option linter.unusedSimpArgs false
set_option linter.unusedSectionVars false
namespace Go.Proofs.YtccdnieoaejgdaaGreatDoor
open Go.RowKit Go.Shelf
attribute [local go_sem] Oper.semAt_some wide_fn wide_depth stateAt vu known List.map_cons List.map_nil Option.getD_some

/-- The measure of the first loop: the places that are left, by the place's last value. -/
def upOf (n : Nat) : Value → Nat
  | .int _ z => (z + 1).toNat
  | _ => n + 1
set_option maxRecDepth 100000 in
set_option maxHeartbeats 8000000 in
theorem fewest_any (f : FT) (A : Option Addr) (c : Nat) (s : ByteArray) (B : Option Addr) (d : Nat) (bz : List Int) (w : World) (hf : FR w A c f) (hn : f.sorts.length ≤ 120) (hs : s.size ≤ 100) (hb : RI w B bz.length bz) (ht : ∀ k, k < f.sorts.length → (f.sorts.getD k TS.zero).text.size ≤ 4) (hk : ∀ k, k < f.sorts.length → (f.sorts.getD k TS.zero).kind ≠ 3 → 1 ≤ (f.sorts.getD k TS.zero).text.size) :
    Calls Tryz.prog 97 #[f.val A c, .string s, .slice B bz.length d] w (RetSB (fewOf f.sorts s.data.toList bz) w) := by
  have HF := Lib.hid hf; have HBZ := Lib.hid hb; have HT4 := Lib.hid ht
  have HBG : Hid (∀ (a : Nat) (i : BegT f.sorts (s.data.toList.drop a)), 1 ≤ txN f.sorts i.1) := Lib.hid fun a i => by
    have h := i.2.2
    unfold fitB at h
    rw [Bool.and_eq_true, decide_eq_true_eq] at h
    exact hk i.1 i.2.1 h.1
  have HSL : Hid (s.data.toList.length = s.size) := Lib.hid (by simp)
  have CB := Lib.hid fun a W => begins_any f A c (s.extract a s.size) W
  have CBR := Lib.hid fun W (a n : Int) (hz : RI W B bz.length bz) ha hn => barred_any B d bz a n W hz ha hn
  unfold FT.val at CB ⊢
  obtain ⟨PC, hPC⟩ : ∃ PC : Array Value, PC = #[.string f.name, .int .i64 f.body, .slice A f.sorts.length c] := ⟨_, rfl⟩
  obtain ⟨BV, hBV⟩ : ∃ BV : Value, BV = .slice B bz.length d := ⟨_, rfl⟩
  have HPC := Lib.hid hPC; have HBV := Lib.hid hBV
  have u1 : IntKind.i64.wrap ((s.size : Int) + 1) = (s.size : Int) + 1 := IntWalk.i64_in _ (by omega)
  have hmk := run_make_ints (s.size + 1) (by omega)
  simp only [Int.natCast_add, Int.natCast_one] at hmk
  clear hf hb ht hk hPC hBV
  refine (callsIn_wide (n := 3)).1 ?_
  refine callsIn_of_wp_marks Tryz.func97 rfl trivial ?_ rfl
  simp only [Tryz.ntmps97, List.size_toArray, List.length_cons, List.length_nil, Nat.reduceAdd, Nat.reduceSub, Array.replicate_succ, Array.replicate_zero, List.push_toArray, List.append_toArray, List.nil_append, List.cons_append]
  refine wpIn_wide.2 ?_
  go_upto_region 1 with fail
  have HFW : Hid (∀ U, Fw1 w PC BV (s.size + 1) U false false (((w.alloc (.cells #[.string f.name, .int .i64 f.body, .slice A f.sorts.length c] 126)).alloc (.cells #[.slice B bz.length d] 27))).drew) := Lib.hid fun U => by
    rw [HPC.out, HBV.out]
    exact ⟨(by repeat (first | exact Ext.refl _ | assumption | refine Ext.alloc ?_ _ | refine Ext.drew ?_ | refine Ext.drewN ?_ _ | (refine Ext.setCell ?_ (by simp <;> omega) _) | refine Ext.trans ?_ (by assumption))), ((Blk.new w _ _).alloc _).drew, (Blk.new1 w _ _ _).drew, fun e => (by cases e), fun e => (by cases e)⟩
  refine wp_region_sv [10, 11] [some (.string s), some (.int .i64 (s.size : Int)), some (.int .i64 ((s.size : Int) + 1)), none, some (.string s), some (.int .i64 (s.size : Int)), some (.int .i64 ((s.size : Int) + 1)), none, none, none, some (undef), some (undef)] (fun k v fl W => (k = 3 → (fun (v : Value) (fl : List Bool) (W : World) => ZeroS w (s.size + 1) v W) v fl W) ∧ (k = 7 → (fun (v : Value) (fl : List Bool) (W : World) => ZeroS w (s.size + 1) v W) v fl W) ∧ (k = 8 → (fun (v : Value) (fl : List Bool) (W : World) => NewV w (fl.getD 0 false) v W) v fl W) ∧ (k = 9 → (fun (v : Value) (fl : List Bool) (W : World) => NewV w (fl.getD 1 false) v W) v fl W)) (fun U fl W => Fw1 w PC BV (s.size + 1) U (fl.getD 0 false) (fl.getD 1 false) W) (fun j k v u => (j = 3 → k = 7 → (NeS) v u) ∧ (j = 7 → k = 3 → (NeS) u v) ∧ (j = 8 → k = 9 → (NeP) v u) ∧ (j = 9 → k = 8 → (NeP) u v)) (by kernel_rfl) (by kernel_rfl) rfl (by decide) (fun U fl W W' h hx => h.next hx) (fun U U' fl W hl hq h => (by obtain ⟨f0, f1, rfl⟩ := flen2 hl; have h9 : Fw1 w PC BV (s.size + 1) U f0 f1 W := h; refine (⟨h9.ext, h9.pb, h9.bb, fun e => ?_, fun e => ?_⟩ : Fw1 w PC BV (s.size + 1) U' f0 f1 W); (have h8 := h9.n1 e; rw [hq 0 (by decide) e 8 (by kernel_rfl), hq 0 (by decide) e 3 (by kernel_rfl)] at h8; exact h8); (have h8 := h9.n2 e; rw [hq 1 (by decide) e 9 (by kernel_rfl), hq 1 (by decide) e 7 (by kernel_rfl)] at h8; exact h8))) (fun k v fl W W' h hx => ⟨fun e => ZeroS.ext ((h.1 e)) hx, fun e => ZeroS.ext ((h.2.1 e)) hx, fun e => NewV.ext ((h.2.2.1 e)) hx, fun e => NewV.ext ((h.2.2.2 e)) hx⟩) (fun U => HFW.out U) ⟨?_, ?_, ?_, ?_, ?_, ?_, ?_, ?_, ?_, ?_, ?_, ?_, trivial⟩ ?_
  · intro U fl W hS hl hn hd hR hrr
    obtain ⟨f0, f1, rfl⟩ := flen2 hl
    obtain rfl : f0 = false := hn 0 (by decide) (by kernel_rfl)
    clear hR hl hn hd hrr
    have hT : Fw1 w PC BV (s.size + 1) U _ _ W := hS; clear hS
    refine StepZ.go rfl ?_
    go_simp
    exact ⟨TurnV.ext rfl (by repeat (first | exact Ext.refl _ | assumption | refine Ext.alloc ?_ _ | refine Ext.drew ?_ | refine Ext.drewN ?_ _ | (refine Ext.setCell ?_ (by simp <;> omega) _) | refine Ext.trans ?_ (by assumption))), givesS_k (by kernel_rfl), (RelS.of fun j9 v9 hj9 hk9 hp9 => ⟨⟨(fun _ e => absurd e (by decide)), (fun _ e => absurd e (by decide)), (fun _ e => absurd e (by decide)), (fun _ e => absurd e (by decide))⟩, ⟨(fun e _ => absurd e (by decide)), (fun e _ => absurd e (by decide)), (fun e _ => absurd e (by decide)), (fun e _ => absurd e (by decide))⟩⟩)⟩
  · intro U fl W hS hl hn hd hR hrr
    obtain ⟨f0, f1, rfl⟩ := flen2 hl
    obtain rfl : f0 = false := hn 0 (by decide) (by kernel_rfl)
    clear hR hl hn hd hrr
    have hT : Fw1 w PC BV (s.size + 1) U _ _ W := hS; clear hS
    refine StepZ.go rfl ?_
    go_simp
    exact ⟨TurnV.ext rfl (by repeat (first | exact Ext.refl _ | assumption | refine Ext.alloc ?_ _ | refine Ext.drew ?_ | refine Ext.drewN ?_ _ | (refine Ext.setCell ?_ (by simp <;> omega) _) | refine Ext.trans ?_ (by assumption))), givesS_k (by kernel_rfl), (RelS.of fun j9 v9 hj9 hk9 hp9 => ⟨⟨(fun _ e => absurd e (by decide)), (fun _ e => absurd e (by decide)), (fun _ e => absurd e (by decide)), (fun _ e => absurd e (by decide))⟩, ⟨(fun e _ => absurd e (by decide)), (fun e _ => absurd e (by decide)), (fun e _ => absurd e (by decide)), (fun e _ => absurd e (by decide))⟩⟩)⟩
  · intro U fl W hS hl hn hd hR hrr
    obtain ⟨f0, f1, rfl⟩ := flen2 hl
    obtain rfl : f0 = false := hn 0 (by decide) (by kernel_rfl)
    clear hR hl hn hd hrr
    have hT : Fw1 w PC BV (s.size + 1) U _ _ W := hS; clear hS
    refine StepZ.go rfl ?_
    go_simp
    exact ⟨TurnV.ext rfl (by repeat (first | exact Ext.refl _ | assumption | refine Ext.alloc ?_ _ | refine Ext.drew ?_ | refine Ext.drewN ?_ _ | (refine Ext.setCell ?_ (by simp <;> omega) _) | refine Ext.trans ?_ (by assumption))), givesS_k (by kernel_rfl), (RelS.of fun j9 v9 hj9 hk9 hp9 => ⟨⟨(fun _ e => absurd e (by decide)), (fun _ e => absurd e (by decide)), (fun _ e => absurd e (by decide)), (fun _ e => absurd e (by decide))⟩, ⟨(fun e _ => absurd e (by decide)), (fun e _ => absurd e (by decide)), (fun e _ => absurd e (by decide)), (fun e _ => absurd e (by decide))⟩⟩)⟩
  · intro U fl W hS hl hn hd hR hrr
    obtain ⟨f0, f1, rfl⟩ := flen2 hl
    obtain rfl : f0 = false := hn 0 (by decide) (by kernel_rfl)
    clear hR hl hn hd hrr
    have hT : Fw1 w PC BV (s.size + 1) U _ _ W := hS; clear hS
    refine StepZ.go rfl ?_
    go_simp
    exact ⟨TurnV.ext rfl (by repeat (first | exact Ext.refl _ | assumption | refine Ext.alloc ?_ _ | refine Ext.drew ?_ | refine Ext.drewN ?_ _ | (refine Ext.setCell ?_ (by simp <;> omega) _) | refine Ext.trans ?_ (by assumption))), givesS_e (by kernel_rfl) ⟨fun _ => ⟨_, rfl, Blk.new W _ _, hT.bb.lt⟩, fun e => absurd e (by decide), fun e => absurd e (by decide), fun e => absurd e (by decide)⟩, (RelS.of fun j9 v9 hj9 hk9 hp9 => ⟨⟨(fun _ e => absurd e (by decide)), (fun e _ => by subst e; exact (fun e9 => (by obtain ⟨g9, rfl, hb9, _⟩ := ((hp9.2.1 rfl)); have h9 := hb9.lt; simp [Value.ownBlock] at e9; omega))), (fun _ e => absurd e (by decide)), (fun _ e => absurd e (by decide))⟩, ⟨(fun _ e => by subst e; exact (fun e9 => (by obtain ⟨g9, rfl, hb9, _⟩ := ((hp9.2.1 rfl)); have h9 := hb9.lt; simp [Value.ownBlock] at e9; omega))), (fun e _ => absurd e (by decide)), (fun e _ => absurd e (by decide)), (fun e _ => absurd e (by decide))⟩⟩)⟩
  · intro U fl W hS hl hn hd hR hrr
    obtain ⟨f0, f1, rfl⟩ := flen2 hl
    obtain rfl : f1 = false := hn 1 (by decide) (by kernel_rfl)
    clear hR hl hn hd hrr
    have hT : Fw1 w PC BV (s.size + 1) U _ _ W := hS; clear hS
    refine StepZ.go rfl ?_
    go_simp
    exact ⟨TurnV.ext rfl (by repeat (first | exact Ext.refl _ | assumption | refine Ext.alloc ?_ _ | refine Ext.drew ?_ | refine Ext.drewN ?_ _ | (refine Ext.setCell ?_ (by simp <;> omega) _) | refine Ext.trans ?_ (by assumption))), givesS_k (by kernel_rfl), (RelS.of fun j9 v9 hj9 hk9 hp9 => ⟨⟨(fun _ e => absurd e (by decide)), (fun _ e => absurd e (by decide)), (fun _ e => absurd e (by decide)), (fun _ e => absurd e (by decide))⟩, ⟨(fun e _ => absurd e (by decide)), (fun e _ => absurd e (by decide)), (fun e _ => absurd e (by decide)), (fun e _ => absurd e (by decide))⟩⟩)⟩
  · intro U fl W hS hl hn hd hR hrr
    obtain ⟨f0, f1, rfl⟩ := flen2 hl
    obtain rfl : f1 = false := hn 1 (by decide) (by kernel_rfl)
    clear hR hl hn hd hrr
    have hT : Fw1 w PC BV (s.size + 1) U _ _ W := hS; clear hS
    refine StepZ.go rfl ?_
    go_simp
    exact ⟨TurnV.ext rfl (by repeat (first | exact Ext.refl _ | assumption | refine Ext.alloc ?_ _ | refine Ext.drew ?_ | refine Ext.drewN ?_ _ | (refine Ext.setCell ?_ (by simp <;> omega) _) | refine Ext.trans ?_ (by assumption))), givesS_k (by kernel_rfl), (RelS.of fun j9 v9 hj9 hk9 hp9 => ⟨⟨(fun _ e => absurd e (by decide)), (fun _ e => absurd e (by decide)), (fun _ e => absurd e (by decide)), (fun _ e => absurd e (by decide))⟩, ⟨(fun e _ => absurd e (by decide)), (fun e _ => absurd e (by decide)), (fun e _ => absurd e (by decide)), (fun e _ => absurd e (by decide))⟩⟩)⟩
  · intro U fl W hS hl hn hd hR hrr
    obtain ⟨f0, f1, rfl⟩ := flen2 hl
    obtain rfl : f1 = false := hn 1 (by decide) (by kernel_rfl)
    clear hR hl hn hd hrr
    have hT : Fw1 w PC BV (s.size + 1) U _ _ W := hS; clear hS
    refine StepZ.go rfl ?_
    go_simp
    exact ⟨TurnV.ext rfl (by repeat (first | exact Ext.refl _ | assumption | refine Ext.alloc ?_ _ | refine Ext.drew ?_ | refine Ext.drewN ?_ _ | (refine Ext.setCell ?_ (by simp <;> omega) _) | refine Ext.trans ?_ (by assumption))), givesS_k (by kernel_rfl), (RelS.of fun j9 v9 hj9 hk9 hp9 => ⟨⟨(fun _ e => absurd e (by decide)), (fun _ e => absurd e (by decide)), (fun _ e => absurd e (by decide)), (fun _ e => absurd e (by decide))⟩, ⟨(fun e _ => absurd e (by decide)), (fun e _ => absurd e (by decide)), (fun e _ => absurd e (by decide)), (fun e _ => absurd e (by decide))⟩⟩)⟩
  · intro U fl W hS hl hn hd hR hrr
    obtain ⟨f0, f1, rfl⟩ := flen2 hl
    obtain rfl : f1 = false := hn 1 (by decide) (by kernel_rfl)
    clear hR hl hn hd hrr
    have hT : Fw1 w PC BV (s.size + 1) U _ _ W := hS; clear hS
    refine StepZ.go rfl ?_
    go_simp
    exact ⟨TurnV.ext rfl (by repeat (first | exact Ext.refl _ | assumption | refine Ext.alloc ?_ _ | refine Ext.drew ?_ | refine Ext.drewN ?_ _ | (refine Ext.setCell ?_ (by simp <;> omega) _) | refine Ext.trans ?_ (by assumption))), givesS_e (by kernel_rfl) ⟨fun e => absurd e (by decide), fun _ => ⟨_, rfl, Blk.new W _ _, hT.bb.lt⟩, fun e => absurd e (by decide), fun e => absurd e (by decide)⟩, (RelS.of fun j9 v9 hj9 hk9 hp9 => ⟨⟨(fun e _ => by subst e; exact (fun e9 => (by obtain ⟨g9, rfl, hb9, _⟩ := ((hp9.1 rfl)); have h9 := hb9.lt; simp [Value.ownBlock] at e9; omega))), (fun _ e => absurd e (by decide)), (fun _ e => absurd e (by decide)), (fun _ e => absurd e (by decide))⟩, ⟨(fun e _ => absurd e (by decide)), (fun _ e => by subst e; exact (fun e9 => (by obtain ⟨g9, rfl, hb9, _⟩ := ((hp9.1 rfl)); have h9 := hb9.lt; simp [Value.ownBlock] at e9; omega))), (fun e _ => absurd e (by decide)), (fun e _ => absurd e (by decide))⟩⟩)⟩
  · intro U fl W hS hl hn hd hR hrr
    obtain ⟨f0, f1, rfl⟩ := flen2 hl
    obtain rfl : f0 = false := hn 0 (by decide) (by kernel_rfl)
    clear hR hl hn hd hrr
    have hT : Fw1 w PC BV (s.size + 1) U _ _ W := hS; clear hS
    refine StepZ.go rfl ?_
    go_simp
    exact ⟨TurnV.ext rfl (by repeat (first | exact Ext.refl _ | assumption | refine Ext.alloc ?_ _ | refine Ext.drew ?_ | refine Ext.drewN ?_ _ | (refine Ext.setCell ?_ (by simp <;> omega) _) | refine Ext.trans ?_ (by assumption))), givesS_e (by kernel_rfl) ⟨fun e => absurd e (by decide), fun e => absurd e (by decide), fun _ => ⟨_, rfl, fun _ => Blk.new W _ _, hT.bb.lt, by simp⟩, fun e => absurd e (by decide)⟩, (RelS.of fun j9 v9 hj9 hk9 hp9 => ⟨⟨(fun _ e => absurd e (by decide)), (fun _ e => absurd e (by decide)), (fun _ e => absurd e (by decide)), (fun e _ => by subst e; exact (fun e9 => (by obtain ⟨g9, rfl, _, _, h9⟩ := ((hp9.2.2.2 rfl)); (simp at e9) <;> omega)))⟩, ⟨(fun e _ => absurd e (by decide)), (fun e _ => absurd e (by decide)), (fun _ e => by subst e; exact (fun e9 => (by obtain ⟨g9, rfl, _, _, h9⟩ := ((hp9.2.2.2 rfl)); (simp at e9) <;> omega))), (fun e _ => absurd e (by decide))⟩⟩)⟩
  · intro U fl W hS hl hn hd hR hrr
    obtain ⟨f0, f1, rfl⟩ := flen2 hl
    obtain rfl : f1 = false := hn 1 (by decide) (by kernel_rfl)
    clear hR hl hn hd hrr
    have hT : Fw1 w PC BV (s.size + 1) U _ _ W := hS; clear hS
    refine StepZ.go rfl ?_
    go_simp
    exact ⟨TurnV.ext rfl (by repeat (first | exact Ext.refl _ | assumption | refine Ext.alloc ?_ _ | refine Ext.drew ?_ | refine Ext.drewN ?_ _ | (refine Ext.setCell ?_ (by simp <;> omega) _) | refine Ext.trans ?_ (by assumption))), givesS_e (by kernel_rfl) ⟨fun e => absurd e (by decide), fun e => absurd e (by decide), fun e => absurd e (by decide), fun _ => ⟨_, rfl, fun _ => Blk.new W _ _, hT.bb.lt, by simp⟩⟩, (RelS.of fun j9 v9 hj9 hk9 hp9 => ⟨⟨(fun _ e => absurd e (by decide)), (fun _ e => absurd e (by decide)), (fun e _ => by subst e; exact (fun e9 => (by obtain ⟨g9, rfl, _, _, h9⟩ := ((hp9.2.2.1 rfl)); (simp at e9) <;> omega))), (fun _ e => absurd e (by decide))⟩, ⟨(fun e _ => absurd e (by decide)), (fun e _ => absurd e (by decide)), (fun e _ => absurd e (by decide)), (fun _ e => by subst e; exact (fun e9 => (by obtain ⟨g9, rfl, _, _, h9⟩ := ((hp9.2.2.1 rfl)); (simp at e9) <;> omega)))⟩⟩)⟩
  · intro U fl W hS hl hn hd hR hrr
    obtain ⟨f0, f1, rfl⟩ := flen2 hl
    obtain rfl : f0 = false := hn 0 (by decide) (by kernel_rfl)
    have r3 := (hR 3 (by decide) (by kernel_rfl)).1 rfl; obtain ⟨g3, e3_, hb3, hg3⟩ := r3
    have r8 := (hR 8 (by decide) (by kernel_rfl)).2.2.1 rfl; obtain ⟨q8, e8_, hb8, hq8, hl8⟩ := r8
    clear hR hl hn hd
    have hT : Fw1 w PC BV (s.size + 1) U _ _ W := hS; clear hS
    have hb8 := hb8 rfl; have hn8 : f1 = true → U 9 ≠ U 8 := fun e => fun e2 => (hrr 8 (by decide) 1 (by decide) (by rw [e]; rfl) 9 (by kernel_rfl) (by decide) (by kernel_rfl) (by kernel_rfl)).2.2.1 rfl rfl e2.symm; (try rw [e8_]); (try rw [e3_]); have y1 := hb8.cell 0 _ rfl; have yf := hb8.frozen 0
    refine StepZ.go rfl ?_
    go_simp
    exact ⟨rfl, TurnV.sp rfl (Fw1.sto1 hT e8_ e3_ hb8 hb3 hq8 hg3 hn8) (fun k9 v9 hk9 h9 hr9 => ⟨fun e => by subst e; exact (ZeroS.sto ((h9.1 rfl)) hb8), fun e => by subst e; exact (ZeroS.sto ((h9.2.1 rfl)) hb8), fun e => by subst e; exact (NewV.done ((h9.2.2.1 rfl))), fun e => by subst e; exact (NewV.sto ((h9.2.2.2 rfl)) (fun e9 => (hr9 8 (by decide) (by decide) (by kernel_rfl)).2.2.1 rfl rfl (by rw [e8_]; exact e9.symm)))⟩), givesS_k (by kernel_rfl), (RelS.of fun j9 v9 hj9 hk9 hp9 => ⟨⟨(fun _ e => absurd e (by decide)), (fun _ e => absurd e (by decide)), (fun _ e => absurd e (by decide)), (fun _ e => absurd e (by decide))⟩, ⟨(fun e _ => absurd e (by decide)), (fun e _ => absurd e (by decide)), (fun e _ => absurd e (by decide)), (fun e _ => absurd e (by decide))⟩⟩)⟩
  · intro U fl W hS hl hn hd hR hrr
    obtain ⟨f0, f1, rfl⟩ := flen2 hl
    obtain rfl : f1 = false := hn 1 (by decide) (by kernel_rfl)
    have r7 := (hR 7 (by decide) (by kernel_rfl)).2.1 rfl; obtain ⟨g7, e7_, hb7, hg7⟩ := r7
    have r9 := (hR 9 (by decide) (by kernel_rfl)).2.2.2 rfl; obtain ⟨q9, e9_, hb9, hq9, hl9⟩ := r9
    clear hR hl hn hd
    have hT : Fw1 w PC BV (s.size + 1) U _ _ W := hS; clear hS
    have hb9 := hb9 rfl; have hn9 : f0 = true → U 8 ≠ U 9 := fun e => fun e2 => (hrr 9 (by decide) 0 (by decide) (by rw [e]; rfl) 8 (by kernel_rfl) (by decide) (by kernel_rfl) (by kernel_rfl)).2.2.2 rfl rfl e2; (try rw [e9_]); (try rw [e7_]); have y1 := hb9.cell 0 _ rfl; have yf := hb9.frozen 0
    refine StepZ.go rfl ?_
    go_simp
    exact ⟨rfl, TurnV.sp rfl (Fw1.sto2 hT e9_ e7_ hb9 hb7 hq9 hg7 hn9) (fun k9 v9 hk9 h9 hr9 => ⟨fun e => by subst e; exact (ZeroS.sto ((h9.1 rfl)) hb9), fun e => by subst e; exact (ZeroS.sto ((h9.2.1 rfl)) hb9), fun e => by subst e; exact (NewV.sto ((h9.2.2.1 rfl)) (fun e9 => (hr9 9 (by decide) (by decide) (by kernel_rfl)).2.2.2 rfl rfl (by rw [e9_]; exact e9))), fun e => by subst e; exact (NewV.done ((h9.2.2.2 rfl)))⟩), givesS_k (by kernel_rfl), (RelS.of fun j9 v9 hj9 hk9 hp9 => ⟨⟨(fun _ e => absurd e (by decide)), (fun _ e => absurd e (by decide)), (fun _ e => absurd e (by decide)), (fun _ e => absurd e (by decide))⟩, ⟨(fun e _ => absurd e (by decide)), (fun e _ => absurd e (by decide)), (fun e _ => absurd e (by decide)), (fun e _ => absurd e (by decide))⟩⟩)⟩
  · intro U W hS hR hRR
    have q3_7 := (hRR 3 7 (by decide) (by decide) (by decide) (by kernel_rfl) (by kernel_rfl)).1 rfl rfl
    have q8_9 := (hRR 8 9 (by decide) (by decide) (by decide) (by kernel_rfl) (by kernel_rfl)).2.2.1 rfl rfl
    clear hRR
    have r3 := (hR 3 (by decide) (by kernel_rfl)).1 rfl; obtain ⟨g3, e3_, hb3, hg3⟩ := r3
    have r7 := (hR 7 (by decide) (by kernel_rfl)).2.1 rfl; obtain ⟨g7, e7_, hb7, hg7⟩ := r7
    have r8 := (hR 8 (by decide) (by kernel_rfl)).2.2.1 rfl; obtain ⟨q8, e8_, hb8, hq8, hl8⟩ := r8
    have r9 := (hR 9 (by decide) (by kernel_rfl)).2.2.2 rfl; obtain ⟨q9, e9_, hb9, hq9, hl9⟩ := r9
    clear hR
    have hT : Fw1 w PC BV (s.size + 1) U true true W := hS; clear hS
    simp only [putAll, vu, Act.put, List.setIfInBounds_toArray, List.set_cons_zero, List.set_cons_succ]
    (try simp only [e3_])
    (try simp only [e7_])
    (try simp only [e8_])
    (try simp only [e9_])
    clear hmk
    obtain ⟨q, g, e1, e2, hb8x, hg3x, lo8, lo3⟩ := hT.n1 rfl
    obtain rfl : q = q8 := by have := e8_.symm.trans e1; simp at this; omega
    obtain rfl : g = g3 := by have := e3_.symm.trans e2; simp at this; omega
    obtain ⟨q', g', e1', e2', hb9x, hg7x, lo9, lo7⟩ := hT.n2 rfl
    obtain rfl : q' = q9 := by have := e9_.symm.trans e1'; simp at this; omega
    obtain rfl : g' = g7 := by have := e7_.symm.trans e2'; simp at this; omega
    have hg37 : g ≠ g' := fun e => q3_7 (by rw [e3_, e7_, e])
    have hlt3 := hg3x.lt; have hlt7 := hg7x.lt
    have HT0 : Hid (FwT w PC BV s.size q g q' g' (fewTab f.sorts s.data.toList bz 0) (fewTab f.sorts s.data.toList bz 0) W.heap.size ((s.size : Int) - 1 - ((0 : Nat) : Int)) [] (W.alloc (.cells #[.int .i64 ((s.size : Int) - 1)] 3))) := Lib.hid (by
      have hx : Ext W (W.alloc (.cells #[.int .i64 ((s.size : Int) - 1)] 3)) := (by repeat (first | exact Ext.refl _ | assumption | refine Ext.alloc ?_ _ | refine Ext.drew ?_ | refine Ext.drewN ?_ _ | (refine Ext.setCell ?_ (by simp <;> omega) _) | refine Ext.trans ?_ (by assumption)))
      refine ⟨hT.ext.trans hx, hT.pb.ext hx, hT.bb.ext hx, hb8x.ext hx, hb9x.ext hx, ?_, ?_, ?_, ⟨hg37, by omega, by omega⟩, ⟨lo3, lo7, by omega⟩, Marks.nil _ _⟩
      · show Blk _ g _ (intC (nT s.size [(0, 0)]))
        rw [nT_zero, intC_zero]; exact hg3x.ext hx
      · show Blk _ g' _ (intC (fT s.size [(0, 0)]))
        rw [fT_zero, intC_zero]; exact hg7x.ext hx
      · rw [show (s.size : Int) - 1 - ((0 : Nat) : Int) = (s.size : Int) - 1 by omega]; exact Blk.new W _ _)
    have u2 : IntKind.i64.wrap ((s.size : Int) - 1) = (s.size : Int) - 1 := IntWalk.i64_in _ (by omega)
    clear hT e1 e2 e1' e2' hb8x hg3x hb9x hg7x q3_7 q8_9 hb8 hb3 hb9 hb7 e8_ e9_ e3_ e7_
    go_upto_block 0 with fail
    go_step
    refine wp_loop_m [false, false, false, false, false, false, false, false, false, false, true, true, true, false, false, false, false, false, false, false, false, false, false, false, false, false, true, true, true, true, true, true, true, true, true, true, true, true, true, true, true, true, true, true, true, true, true, true, true, true, true, true, true, true, true, true, true, true, true, true, true, true, true, true, true, true, true, true, true, true, true, true, true, true, false, false, false, false, false, false, false, false, false, false, false, false, false, false, false, false, false, false, false, false, false, false, false, false, false, false, false, false, false] 29 (fun U Ds wr => ∃ (j ab : Nat), j ≤ s.size ∧ U 10 = .pointer (some ⟨ab, 0, none⟩) ∧ (U 29 = undef ∨ U 29 = .int .i64 ((s.size : Int) - 1 - (j : Int))) ∧ Hid (FwT w PC BV s.size q g q' g' (fewTab f.sorts s.data.toList bz j) (fewTab f.sorts s.data.toList bz j) ab ((s.size : Int) - 1 - (j : Int)) Ds wr)) (upOf s.size) [] rfl ?_ ?_
    · exact ⟨0, _, Nat.zero_le _, rfl, .inl rfl, HT0⟩
    intro U Ds wr hrel
    obtain ⟨j, ab, hj, h10, h29, HS⟩ := hrel
    simp only [over, Nat.reduceAdd, h10]
    clear h10 HT0
    have H29 := Lib.hid h29
    clear h29
    have y1 := HS.out.at_.cell 0 _ rfl; have l1 := HS.out.at_.lt
    by_cases hlt : j < s.size
    case neg =>
      obtain rfl : j = s.size := by omega
      have i1 : ¬ (0 : Int) ≤ (s.size : Int) - 1 - (s.size : Int) := by omega
      -- BEGIN E
      have HML : Hid ((fewTab f.sorts s.data.toList bz s.size).length = s.size + 1) := Lib.hid (fewTab_len _ _ _ _)
      have HAT : Hid (∀ k, k ≤ s.size → (fewTab f.sorts s.data.toList bz s.size).getD k (0, 0) = fwAt f.sorts s.data.toList bz k) := Lib.hid fun k hk => by unfold fwAt; rw [HSL.out]
      have HN0 : Hid ((nT s.size (fewTab f.sorts s.data.toList bz s.size)).getD 0 0 = (fwAt f.sorts s.data.toList bz 0).1) := Lib.hid (by
        rw [nT_at (by rw [HML.out]; omega) (by rw [HML.out]; omega), HML.out, Nat.sub_self, HAT.out 0 (Nat.zero_le _)])
      have HF0 : Hid (∀ k, k ≤ s.size → (fT s.size (fewTab f.sorts s.data.toList bz s.size)).getD k 0 = (fwAt f.sorts s.data.toList bz k).2) := Lib.hid fun k hk => by
        rw [fT_at (by rw [HML.out]; omega) (by rw [HML.out]; omega), HML.out, Nat.sub_self, Nat.sub_zero, HAT.out k hk]
      obtain ⟨z1, z2, z3⟩ := HS.out.getN (by rw [HML.out]; omega) (k := 0) (by omega)
      rw [HN0.out] at z1
      obtain ⟨x1, _, x3⟩ := HS.out.b8.c1
      have i2 : (0 : Int) < (s.size : Int) + 1 := by omega
      have i3 : 0 < s.size + 1 := by omega
      have HR0 := Lib.hid (fun h => fewOf_none (ss := f.sorts) (w := s.data.toList) (bars := bz) h)
      have HR1 := Lib.hid (fun h k => fewOf_some (ss := f.sorts) (w := s.data.toList) (bars := bz) HBG.out h (k := k))
      have HB1 := Lib.hid (fun h k => fewSt_bd (ss := f.sorts) (w := s.data.toList) (bars := bz) HBG.out h k)
      by_cases h31 : 31 ≤ (fwAt f.sorts s.data.toList bz 0).1
      case pos =>
        have HR := Lib.hid (HR0.out h31)
        generalize (fwAt f.sorts s.data.toList bz 0).1 = c0 at *
        clear hj hlt HN0 HF0 HAT HR0 HR1 HB1
        go_wp2
        refine leaves_marks (n0 := w.heap.size) Ds _ (HS.out.ms.ext (by repeat (first | exact Ext.refl _ | assumption | refine Ext.alloc ?_ _ | refine Ext.drew ?_ | refine Ext.drewN ?_ _ | (refine Ext.setCell ?_ (by simp <;> omega) _) | refine Ext.trans ?_ (by assumption)))) fun w' hb' hc' => ⟨.tuple #[.slice none 0 0, .bool false], by simp [results, Tryz.results97], ?_⟩
        rw [HR.out]
        exact ⟨none, 0, rfl, SL.nil _ _, Below.trans HS.out.ext hb'⟩
      case neg =>
        have h30 : (fwAt f.sorts s.data.toList bz 0).1 < 31 := by omega
        have HRS := Lib.hid (HR1.out h30)
        have HBS := Lib.hid (HB1.out h30)
        have HST : Hid (∀ k, (fewSt f.sorts s.data.toList bz k).1 < s.size → fewSt f.sorts s.data.toList bz (k + 1) = ((fewSt f.sorts s.data.toList bz k).1 + txN f.sorts (fwAt f.sorts s.data.toList bz (fewSt f.sorts s.data.toList bz k).1).2.toNat, (fewSt f.sorts s.data.toList bz k).2 ++ [(fwAt f.sorts s.data.toList bz (fewSt f.sorts s.data.toList bz k).1).2])) := Lib.hid fun k hk => by
          rw [fewSt, if_pos (by rw [HSL.out]; exact hk)]
        have HOK : Hid (∀ a, a < s.size → (fwAt f.sorts s.data.toList bz a).1 < 31 → ∃ i : Nat, (fwAt f.sorts s.data.toList bz a).2 = (i : Int) ∧ i < f.sorts.length ∧ 1 ≤ txN f.sorts i ∧ a + txN f.sorts i ≤ s.size) := Lib.hid fun a ha h => by
          rcases fwAt_ok (bars := bz) (show a < s.data.toList.length by rw [HSL.out]; exact ha) (HBG.out a) with h6 | ⟨i, e1, e2, e3, e4⟩
          · omega
          · have hl := fitB_len i.2.2
            rw [List.length_drop, HSL.out] at hl
            have htq : (f.sorts.getD i.1 TS.zero).text.size = txN f.sorts i.1 := rfl
            rw [htq] at hl
            have := HBG.out a i
            exact ⟨i.1, e1, i.2.1, this, by omega⟩
        have h30' : ¬ (31 : Int) ≤ (fwAt f.sorts s.data.toList bz 0).1 := h31
        clear hj hlt HN0 HAT HR0 HR1 HB1 h30 h31
        generalize (fwAt f.sorts s.data.toList bz 0).1 = c0 at *
        go_upto_block 2 with fail
        clear z1 z2 z3 x1 x3 y1 l1 i2 i3 h30'
        refine wp_loop_m [false, false, false, false, false, false, false, false, false, false, false, false, false, true, true, false, false, false, false, false, false, false, false, false, false, false, false, false, false, false, false, false, false, false, false, false, false, false, false, false, false, false, false, false, false, false, false, false, false, false, false, false, false, false, false, false, false, false, false, false, false, false, false, false, false, false, false, false, false, false, false, false, false, false, false, false, false, false, true, true, true, true, true, true, true, true, true, true, true, true, true, true, true, true, true, true, true, true, true, true, true, true, false] 14 (fun U2 Ds2 wr2 => ∃ k : Nat, Ds2 = Ds ∧ U2 14 = .int .i64 (((fewSt f.sorts s.data.toList bz k).1 : Nat) : Int) ∧ Hid (Own wr2 wr.heap.size (U2 13) (fewSt f.sorts s.data.toList bz k).2) ∧ Hid (Ext wr wr2)) (fun v => s.size - (intOf v).toNat) Ds rfl ?_ ?_
        · exact ⟨0, rfl, rfl, Lib.hid (Own.nil _ _), Lib.hid (Ext.refl _)⟩
        intro U2 Ds2 wr2 hrel2
        obtain ⟨k, rfl, h14, HO, HX⟩ := hrel2
        generalize h13 : U2 13 = v13 at *
        simp only [over, Nat.reduceAdd, h13, h14]
        clear h13 h14
        have HSK := Lib.hid (HST.out k)
        have HRK := Lib.hid (fun h => HRS.out k (by rw [HSL.out]; exact h))
        obtain ⟨hb1, hb2, hb3, hb4, hb5⟩ := HBS.out k
        rw [HSL.out] at hb1 hb5
        have HOA := Lib.hid (HOK.out (fewSt f.sorts s.data.toList bz k).1)
        have HFA := Lib.hid (HF0.out (fewSt f.sorts s.data.toList bz k).1)
        generalize hst2 : fewSt f.sorts s.data.toList bz (k + 1) = st2 at *
        have HS2 := Lib.hid hst2
        clear hst2
        generalize hst : fewSt f.sorts s.data.toList bz k = st at *
        clear hst HST HRS HBS HOK HF0
        obtain ⟨a, out⟩ := st
        simp only at hb1 hb2 hb3 hb4 hb5 HSK HRK HOA HFA HO
        have HB2 := Lib.hid hb2; have HB5 := Lib.hid hb5
        clear hb2 hb4 hb5
        by_cases hla : a < s.size
        case neg =>
          have i4 : ¬ (a : Int) < (s.size : Int) := by omega
          have HR := Lib.hid (HRK.out hla)
          obtain ⟨A8, c8, rfl, hc8, hr8⟩ := HO.out.form (by omega)
          clear hc8 hr8 hla HSK HRK HOA HFA
          go_wp2
          refine leaves_marks (n0 := w.heap.size) Ds2 _ ((HS.out.ms.ext HX.out).ext (by repeat (first | exact Ext.refl _ | assumption | refine Ext.alloc ?_ _ | refine Ext.drew ?_ | refine Ext.drewN ?_ _ | (refine Ext.setCell ?_ (by simp <;> omega) _) | refine Ext.trans ?_ (by assumption)))) fun w' hb' hc' => ⟨.tuple #[.slice A8 out.length c8, .bool true], by simp [results, Tryz.results97], ?_⟩
          rw [HR.out]
          exact ⟨A8, c8, rfl, (SL.of_own (hc'.own HO.out) (by omega)).mono (by have := HS.out.ext.size; omega), Below.trans (HS.out.ext.trans HX.out) hb'⟩
        case pos =>
          have i4 : (a : Int) < (s.size : Int) := by omega
          obtain ⟨ti, ht1, ht2, ht3, ht4⟩ := HOA.out hla HB2.out
          have HSK2 := Lib.hid (HSK.out hla)
          have hfa := HFA.out (by omega)
          simp only [ht1, Int.toNat_natCast] at HSK2
          rw [ht1] at hfa
          have HT5 : Hid (txN f.sorts ti = (f.sorts.getD ti TS.zero).text.size) := Lib.hid rfl
          have HP := Lib.hid (HS.out.next HX.out)
          obtain ⟨z1, z2, z3⟩ := HP.out.getF (by rw [HML.out]; omega) (k := a) (by omega)
          have HFB := Lib.hid hfa
          rw [hfa] at z1
          obtain ⟨x1, _, x3⟩ := HP.out.b9.c1
          have i5 : (a : Int) < (s.size : Int) + 1 := by omega
          have i6 : a < s.size + 1 := by omega
          have HOL : Hid (out.length ≤ 1000) := Lib.hid (by omega)
          clear HSK HRK HOA HFA hfa ht1 hb3
          go_upto_region 18 with (first | (at_builtin; refine list_push rfl (.tmp 95) (.tmp 100) rfl wr.heap.size _ out rfl (HO.out.ext (by repeat (first | exact Ext.refl _ | assumption | refine Ext.alloc ?_ _ | refine Ext.drew ?_ | refine Ext.drewN ?_ _ | (refine Ext.setCell ?_ (by simp <;> omega) _) | refine Ext.trans ?_ (by assumption)))) wr2.heap.size (ti : Int) rfl (by simp) (by have := HOL.out; omega) (by have := HX.out.size; simp; omega) ?_; intro v' w' ho hg; have HO2 := Lib.hid ho; have HX4 : Hid (Ext wr w') := Lib.hid (own_ext hg (HO.out.ext (by repeat (first | exact Ext.refl _ | assumption | refine Ext.alloc ?_ _ | refine Ext.drew ?_ | refine Ext.drewN ?_ _ | (refine Ext.setCell ?_ (by simp <;> omega) _) | refine Ext.trans ?_ (by assumption)))) (HX.out.trans (by repeat (first | exact Ext.refl _ | assumption | refine Ext.alloc ?_ _ | refine Ext.drew ?_ | refine Ext.drewN ?_ _ | (refine Ext.setCell ?_ (by simp <;> omega) _) | refine Ext.trans ?_ (by assumption))))); clear ho hg))
          clear z1 z2 z3 x1 x3
          obtain ⟨sb, so, hA, hsb, hsc⟩ := HF.out.rt.2.2 (by omega)
          obtain ⟨_, c1, _, _⟩ := hsc ti ht2
          subst hA
          have HC1 := Lib.hid c1
          have htx := HT5.out
          generalize (f.sorts.getD ti TS.zero).text = tx at *
          have u7 : IntKind.i64.wrap ((a : Int) + (tx.size : Int)) = (a : Int) + (tx.size : Int) := IntWalk.i64_in _ (by omega)
          have i7 : (ti : Int) < (f.sorts.length : Int) := by omega
          clear hsc c1
          refine wp_region_steady (Ext _) [?_, ?_, ?_, ?_, ?_, ?_, ?_, ?_, ?_, ?_, ?_, ?_, ?_, ?_] (by kernel_rfl) (by kernel_rfl) rfl (Ext.refl _).drew ?_ ?_
          rotate_left 14
          · iterate 14
              refine StepsT.cons (fun W hW => ?_) ?_
              · have hP := (HS.out.next HX4.out).next hW; have v1 := hP.pb; rw [HPC.out] at v1; have v1 := v1.cell 2 _ rfl; have w1 := hP.pb.lt; have v2 := hP.b9.cell 0 _ rfl; have w2 := hP.b9.lt; have v3 := (hP.getF (by rw [HML.out]; omega) (k := a) (by omega)).1; rw [HFB.out] at v3; have w3 := hP.ff.lt; have v4 := (hP.ext.cell (p := ⟨sb, so + ti * 4 + 1, none⟩) hsb).trans HC1.out; have w4 := Nat.lt_of_lt_of_le hsb hP.ext.size; clear hP; first | (refine StepT.off rfl hW ?_; rfl) | (refine StepT.go rfl ?_; go_simp; first | (refine ⟨?_, hW⟩; rfl))
              simp only [Act.put, List.setIfInBounds_toArray, List.set_cons_zero, List.set_cons_succ]
            trivial
          intro W hW
          simp only [putAll, Act.put, List.setIfInBounds_toArray, List.set_cons_zero, List.set_cons_succ]
          have HX5 := Lib.hid (HX4.out.trans hW)
          have HO5 := Lib.hid (HO2.out.ext hW)
          clear hW
          go_wp2
          refine ⟨Ds2, rfl, rfl, ⟨k + 1, rfl, ?_, Lib.hid ?_, HX5⟩, ?_⟩
          · rw [HS2.out, HSK2]; simp only; rw [htx]; simp
          · rw [HS2.out, HSK2]; exact HO5.out
          · simp [intOf]; omega
      -- END E
    case pos =>
      obtain ⟨a, ha⟩ : ∃ a : Nat, a + (j + 1) = s.size := ⟨s.size - (j + 1), by omega⟩
      have ea : (s.size : Int) - 1 - (j : Int) = (a : Int) := by omega
      rw [ea] at HS H29 y1
      have i1 : (0 : Int) ≤ (a : Int) := by omega
      have HJA := Lib.hid ha
      have HLJ : Hid ((fewTab f.sorts s.data.toList bz j).length = j + 1) := Lib.hid (fewTab_len _ _ _ j)
      obtain ⟨z1, z2, z3⟩ := HS.out.getN (by rw [HLJ.out]; omega) (k := a) (by omega)
      obtain ⟨x1, _, x3⟩ := HS.out.b8.c1
      have i2 : (a : Int) < (s.size : Int) + 1 := by omega
      have has : a ≤ s.size := by omega
      clear ea ha
      go_upto_region 6 with fail
      obtain ⟨wm, hwm⟩ : ∃ wm, wr.setCell ⟨g, a, none⟩ (.int .i64 31) = wm := ⟨_, rfl⟩
      obtain ⟨L, hL⟩ : ∃ L, L = fewTab f.sorts s.data.toList bz j := ⟨_, rfl⟩
      rw [← hL] at HS HLJ
      have HLE := Lib.hid hL
      have hjl := HJA.out
      have HM : Hid (FwT w PC BV s.size q g q' g' ((31, 0) :: L) ((31, 0) :: L) ab (a : Int) Ds wm) := Lib.hid (by
        rw [← hwm]
        have hll := HLJ.out
        exact (HS.out.setN (Mn' := (31, 0) :: L) a 31 (by rw [show a = s.size - L.length by omega]; exact nT_new (by omega) 31 0)).reF (fT_new (by omega) 31))
      rw [hwm]
      clear hwm z1 z2 z3 x1 x3 y1 l1 HS hL
      have CBA := Lib.hid fun W => CB.out a W
      refine wp_region_rel [some (.agg #[.string f.name, .int .i64 f.body, .slice A f.sorts.length c]), some (.string s), some (.int .i64 (a : Int)), some (.string (s.extract a s.size)), none] (fun k v W => (k = 4 → (fun (v : Value) (W : World) => ∃ bk bf, v = .func (.func 143) #[] #[.pointer (some ⟨bk, 0, none⟩), .pointer (some ⟨bf, 0, none⟩)] ∧ Blk W bk 126 #[.string f.name, .int .i64 f.body, .slice A f.sorts.length c] ∧ Blk W bf 9 #[.string (s.extract a s.size)]) v W)) wm (by kernel_rfl) (by kernel_rfl) rfl (fun k v W W' h hx => fun e => let ⟨bk, bf, h1, h2, h3⟩ := (h e); ⟨bk, bf, h1, h2.ext hx, h3.ext hx⟩) (Ext.refl _) ⟨?_, ?_, ?_, ?_, ?_, trivial⟩ ?_
      · intro U W hx hR
        clear hR
        have hP := HM.out.pb.ext hx; rw [HPC.out] at hP; have y1 := hP.cell 0 _ rfl; have y2 := hP.cell 1 _ rfl; have y3 := hP.cell 2 _ rfl; have l1 := hP.lt; clear hP
        refine StepZ.go rfl ?_
        go_simp
        exact ⟨(by repeat (first | exact Ext.refl _ | assumption | refine Ext.alloc ?_ _ | refine Ext.drew ?_ | refine Ext.drewN ?_ _ | (refine Ext.setCell ?_ (by simp <;> omega) _) | refine Ext.trans ?_ (by assumption))), gives_k (by kernel_rfl)⟩
      · intro U W hx hR
        clear hR
        refine StepZ.go rfl ?_
        go_simp
        exact ⟨(by repeat (first | exact Ext.refl _ | assumption | refine Ext.alloc ?_ _ | refine Ext.drew ?_ | refine Ext.drewN ?_ _ | (refine Ext.setCell ?_ (by simp <;> omega) _) | refine Ext.trans ?_ (by assumption))), gives_k (by kernel_rfl)⟩
      · intro U W hx hR
        clear hR
        have hP := HM.out.at_.ext hx; have y1 := hP.cell 0 _ rfl; have l1 := hP.lt; clear hP
        refine StepZ.go rfl ?_
        go_simp
        exact ⟨(by repeat (first | exact Ext.refl _ | assumption | refine Ext.alloc ?_ _ | refine Ext.drew ?_ | refine Ext.drewN ?_ _ | (refine Ext.setCell ?_ (by simp <;> omega) _) | refine Ext.trans ?_ (by assumption))), gives_k (by kernel_rfl)⟩
      · intro U W hx hR
        clear hR
        refine StepZ.go rfl ?_
        go_simp
        exact ⟨(by repeat (first | exact Ext.refl _ | assumption | refine Ext.alloc ?_ _ | refine Ext.drew ?_ | refine Ext.drewN ?_ _ | (refine Ext.setCell ?_ (by simp <;> omega) _) | refine Ext.trans ?_ (by assumption))), gives_k (by kernel_rfl)⟩
      · intro U W hx hR
        clear hR
        refine StepZ.go rfl ?_
        go_simp
        refine Calls.mono (CBA.out _) ?_; rintro e w4 ⟨rfl, rfl⟩; exact ⟨_, rfl, (by repeat (first | exact Ext.refl _ | assumption | refine Ext.alloc ?_ _ | refine Ext.drew ?_ | refine Ext.drewN ?_ _ | (refine Ext.setCell ?_ (by simp <;> omega) _) | refine Ext.trans ?_ (by assumption))), gives_e (by kernel_rfl) (fun _ => ⟨_, _, rfl, (Blk.new W _ _).alloc _, Blk.new1 W _ _ _⟩)⟩
      · intro U W hx hR
        have r4 := (hR 4 (by decide) (by kernel_rfl)) rfl; obtain ⟨bk, bf, e4_, hbk, hbf⟩ := r4
        clear hR
        simp only [putAll, vu, Act.put, List.setIfInBounds_toArray, List.set_cons_zero, List.set_cons_succ]
        (try simp only [e4_])
        have HM2 := Lib.hid (HM.out.next hx)
        have HKG : Hid ((bk ≠ g ∧ bf ≠ g) ∧ (bk ≠ g' ∧ bf ≠ g')) := Lib.hid ⟨⟨blk_neT hbk HM2.out.nn (by decide), blk_neT hbf HM2.out.nn (by decide)⟩, ⟨blk_neT hbk HM2.out.ff (by decide), blk_neT hbf HM2.out.ff (by decide)⟩⟩
        have HBS : Hid (BgS w f A c (s.extract a s.size) bk bf W) := Lib.hid ⟨HM2.out.ext, HF.out, hbk, hbf⟩
        have HSX : Hid ((s.extract a s.size).data.toList = s.data.toList.drop a) := Lib.hid (by rw [ext_list, List.take_of_length_le (by simp)])
        have hq0 := HM2.out.ext.size; have hq1 := hbk.lt; have hq2 := hbf.lt
        have HMB : Hid (∀ D, D ∈ Ds → D < W.heap.size) := Lib.hid fun D hD => (HM2.out.ms.2 D hD).2.1
        clear hx hbk hbf HM
        go_upto_block 2 with fail
        go_step
        obtain ⟨sx, hsx⟩ : ∃ sx, sx = s.extract a s.size := ⟨_, rfl⟩
        rw [← hsx] at HBS HSX
        clear hsx
        generalize W = wq at *
        have HLA : Hid (L = fewTab f.sorts s.data.toList bz (s.data.toList.length - (a + 1))) := Lib.hid (by rw [HLE.out, HSL.out, show s.size - (a + 1) = j by omega])
        have HFB : Hid (∀ pre : List (BegT f.sorts sx.data.toList), 0 ≤ (fewL f.sorts bz L a pre).1 ∧ (fewL f.sorts bz L a pre).1 ≤ 31) := Lib.hid fun pre => by
          rw [HLA.out]; exact fewL_bd HBG.out (by rw [HSL.out]; omega) _ HSX.out pre
        have HXB : Hid (∀ k, k ≤ j → 0 ≤ (L.getD k (0, 0)).1 ∧ (L.getD k (0, 0)).1 ≤ 31) := Lib.hid fun k hk => by
          rw [HLE.out, fewTab_at f.sorts s.data.toList bz (by rw [HSL.out]; omega) hk]
          exact fwAt_bd HBG.out (by have := HSL.out; omega)
        refine (wpIn_wide (n := 3)).1 ?_
        refine wpIn_rangeFunc_ownG_of_H (gf := 143) (lb := #[.pointer (some ⟨bk, 0, none⟩), .pointer (some ⟨bf, 0, none⟩)]) rfl (by decide) rfl trivial (enters_of Tryz.func143 (by kernel_rfl) rfl)
          (begins1_stops f A c sx bk bf 2 w wq (by decide) hn HBS.out) (fun h k => KpX.trans h k) (fun W l o o' hl _ _ _ => KpX.of_put (w := wq) hq0 hq1 hq2 W l o' hl) (Below.refl _ _) (fun _ => rfl)
          (fun pre W => FwT w PC BV s.size q g q' g' (fewL f.sorts bz L a pre :: L) (fewL f.sorts bz L a pre :: L) ab (a : Int) Ds W ∧ wq.heap.size ≤ W.heap.size) (fun _ _ _ => False)
          (OwnFrom.and (FwT.from (fun pre => fewL f.sorts bz L a pre :: L) (fun pre => fewL f.sorts bz L a pre :: L) _ HMB.out hq0) (size_own _ _)) (fun _ _ _ _ _ h _ _ => h.elim) ⟨HM2.out, Nat.le_refl _⟩ ?a1 ?assign ?body ?done ?stop (KpX.refl _ _ _)
        case assign =>
          intro l x2 W K hK
          gi_wp2
          exact hK
        case body =>
          rintro l pre ⟨t, ht⟩ wo ⟨hS2, hoq⟩ hlen
          have HXO := Lib.hid hS2.ext
          have HSO := Lib.hid hS2
          have HSN := Lib.hid (fewL_snoc f.sorts bz L a pre ⟨t, ht⟩)
          have hcb := HFB.out pre
          have htn : txN f.sorts t ≤ 4 := HT4.out t ht.1
          have htf := fitB_len ht.2
          rw [HSX.out, List.length_drop, HSL.out] at htf
          have htp : 1 ≤ txN f.sorts t := HBG.out a ⟨t, by rw [← HSX.out]; exact ht⟩
          have htq : (f.sorts.getD t TS.zero).text.size = txN f.sorts t := rfl
          rw [htq] at htf
          have hxb := HXB.out (txN f.sorts t - 1) (by omega)
          have HFS : Hid (fewS f.sorts bz L a (fewL f.sorts bz L a pre) t = if barIn bz (a : Int) (txN f.sorts t) = false ∧ (L.getD (txN f.sorts t - 1) (0, 0)).1 + 1 < (fewL f.sorts bz L a pre).1 then ((L.getD (txN f.sorts t - 1) (0, 0)).1 + 1, (t : Int)) else fewL f.sorts bz L a pre) := Lib.hid rfl
          simp only at HSN
          rw [HFS.out] at HSN
          generalize fewL f.sorts bz L a pre = c0 at *
          generalize txN f.sorts t = tn at *
          have HML : Hid ((c0 :: L).length ≤ s.size + 1) := Lib.hid (by rw [List.length_cons, HLJ.out]; omega)
          have HAL : Hid (a + L.length = s.size) := Lib.hid (by rw [HLJ.out]; omega)
          obtain ⟨k9, hk9⟩ : ∃ k9, k9 = a + tn := ⟨_, rfl⟩
          have HNA : Hid ((nT s.size (c0 :: L)).getD a 0 = c0.1) := Lib.hid (by
            have e := HAL.out
            rw [nT_at HML.out (by rw [List.length_cons]; omega), show a - (s.size + 1 - (c0 :: L).length) = 0 by rw [List.length_cons]; omega]; rfl)
          have HNB : Hid ((nT s.size (c0 :: L)).getD k9 0 = (L.getD (tn - 1) (0, 0)).1) := Lib.hid (by
            have e := HAL.out
            rw [nT_at HML.out (by rw [List.length_cons]; omega), show k9 - (s.size + 1 - (c0 :: L).length) = (tn - 1) + 1 by rw [List.length_cons]; omega]; rfl)
          generalize (L.getD (tn - 1) (0, 0)).1 = x at *
          have HKN := Lib.hid hk9
          have u5 : IntKind.i64.wrap ((a : Int) + (tn : Int)) = (k9 : Int) := by rw [IntWalk.i64_in _ (by omega)]; omega
          have u6 : IntKind.i64.wrap (x + 1) = x + 1 := IntWalk.i64_in _ (by omega)
          have i3 : (k9 : Int) < (s.size : Int) + 1 := by omega
          have i4 : (a : Int) < (s.size : Int) + 1 := by omega
          have i5 : k9 < s.size + 1 := by omega
          have i6 : a < s.size + 1 := by omega
          have CBX := Lib.hid fun W hz => CBR.out W (a : Int) (tn : Int) hz (by omega) (by omega)
          clear hS2 hlen HFS hk9 htf htq
          cases h2 : barIn bz (a : Int) (tn : Int)
          case true =>
            -- BEGIN B
            rw [h2, if_neg (fun h => absurd h.1 (by decide))] at HSN
            rw [h2] at CBX
            repeat gi_step
            refine wpIn_region_steady (Ext _) [?_, ?_, ?_, ?_, ?_, ?_, ?_, ?_, ?_, ?_, ?_, ?_, ?_, ?_, ?_, ?_, ?_, ?_, ?_] (by kernel_rfl) (by kernel_rfl) (by kernel_rfl) rfl (Ext.refl _).drew ?_ ?_
            rotate_left 19
            · iterate 19
                refine StepsT.cons (fun W hW => ?_) ?_
                · have hP := HSO.out.next hW; have v1 := hP.bb.cell 0 _ rfl; rw [HBV.out] at v1; have v2 := hP.at_.cell 0 _ rfl; have v3 := hP.b8.cell 0 _ rfl; have v4 := (hP.getN HML.out (k := a) (by omega)).1; have v5 := (hP.getN HML.out (k := k9) (by omega)).1; rw [HNA.out] at v4; rw [HNB.out] at v5; have w1 := hP.bb.lt; have w2 := hP.at_.lt; have w3 := hP.b8.lt; have w4 := hP.nn.lt; clear hP; first | (refine StepT.off rfl hW ?_; rfl) | (refine StepT.go rfl ?_; go_simp; first | (refine ⟨?_, hW⟩; rfl) | (refine Calls.mono (CBX.out _ (HBZ.out.ext (HXO.out.trans hW))) ?_; rintro e w4 ⟨rfl, hx⟩; refine ⟨?_, hW.trans hx⟩; rfl))
                simp only [Act.put, List.setIfInBounds_toArray, List.set_cons_zero, List.set_cons_succ]
              trivial
            intro W hW
            simp only [putAll, Act.put, List.setIfInBounds_toArray, List.set_cons_zero, List.set_cons_succ]
            have HX4 := Lib.hid hW
            clear hW
            gi_wp2
            refine ⟨HX4.out.keeps _, HX4.out.kpx (by omega) (by omega), ?_, by have := HX4.out.size; omega⟩
            rw [HSN.out]; exact HSO.out.next HX4.out
            -- END B
          case false =>
            rw [h2] at CBX
            by_cases h3 : x + 1 < c0.1
            case neg =>
              -- BEGIN C
              rw [if_neg (fun h => h3 h.2)] at HSN
              repeat gi_step
              refine wpIn_region_steady (Ext _) [?_, ?_, ?_, ?_, ?_, ?_, ?_, ?_, ?_, ?_, ?_, ?_, ?_, ?_, ?_, ?_, ?_, ?_, ?_] (by kernel_rfl) (by kernel_rfl) (by kernel_rfl) rfl (Ext.refl _).drew ?_ ?_
              rotate_left 19
              · iterate 19
                  refine StepsT.cons (fun W hW => ?_) ?_
                  · have hP := HSO.out.next hW; have v1 := hP.bb.cell 0 _ rfl; rw [HBV.out] at v1; have v2 := hP.at_.cell 0 _ rfl; have v3 := hP.b8.cell 0 _ rfl; have v4 := (hP.getN HML.out (k := a) (by omega)).1; have v5 := (hP.getN HML.out (k := k9) (by omega)).1; rw [HNA.out] at v4; rw [HNB.out] at v5; have w1 := hP.bb.lt; have w2 := hP.at_.lt; have w3 := hP.b8.lt; have w4 := hP.nn.lt; clear hP; first | (refine StepT.off rfl hW ?_; rfl) | (refine StepT.go rfl ?_; go_simp; first | (refine ⟨?_, hW⟩; rfl) | (refine Calls.mono (CBX.out _ (HBZ.out.ext (HXO.out.trans hW))) ?_; rintro e w4 ⟨rfl, hx⟩; refine ⟨?_, hW.trans hx⟩; rfl))
                  simp only [Act.put, List.setIfInBounds_toArray, List.set_cons_zero, List.set_cons_succ]
                trivial
              intro W hW
              simp only [putAll, Act.put, List.setIfInBounds_toArray, List.set_cons_zero, List.set_cons_succ]
              have HX4 := Lib.hid hW
              clear hW
              gi_wp2
              refine ⟨HX4.out.keeps _, HX4.out.kpx (by omega) (by omega), ?_, by have := HX4.out.size; omega⟩
              rw [HSN.out]; exact HSO.out.next HX4.out
              -- END C
            case pos =>
              -- BEGIN D
              rw [h2, if_pos ⟨rfl, h3⟩] at HSN
              repeat gi_step
              refine wpIn_region_steady (Ext _) [?_, ?_, ?_, ?_, ?_, ?_, ?_, ?_, ?_, ?_, ?_, ?_, ?_, ?_, ?_, ?_, ?_, ?_, ?_] (by kernel_rfl) (by kernel_rfl) (by kernel_rfl) rfl (Ext.refl _).drew ?_ ?_
              rotate_left 19
              · iterate 19
                  refine StepsT.cons (fun W hW => ?_) ?_
                  · have hP := HSO.out.next hW; have v1 := hP.bb.cell 0 _ rfl; rw [HBV.out] at v1; have v2 := hP.at_.cell 0 _ rfl; have v3 := hP.b8.cell 0 _ rfl; have v4 := (hP.getN HML.out (k := a) (by omega)).1; have v5 := (hP.getN HML.out (k := k9) (by omega)).1; rw [HNA.out] at v4; rw [HNB.out] at v5; have w1 := hP.bb.lt; have w2 := hP.at_.lt; have w3 := hP.b8.lt; have w4 := hP.nn.lt; clear hP; first | (refine StepT.off rfl hW ?_; rfl) | (refine StepT.go rfl ?_; go_simp; first | (refine ⟨?_, hW⟩; rfl) | (refine Calls.mono (CBX.out _ (HBZ.out.ext (HXO.out.trans hW))) ?_; rintro e w4 ⟨rfl, hx⟩; refine ⟨?_, hW.trans hx⟩; rfl))
                  simp only [Act.put, List.setIfInBounds_toArray, List.set_cons_zero, List.set_cons_succ]
                trivial
              intro W hW
              simp only [putAll, Act.put, List.setIfInBounds_toArray, List.set_cons_zero, List.set_cons_succ]
              have HX4 := Lib.hid hW
              clear hW
              repeat gi_step
              have HW10 : Hid (Fw10 w PC BV s.size q g q' g' L c0 (x + 1, (t : Int)) ab a Ds bk bf wq wo false false W.drew) := Lib.hid (Fw10.next (⟨HSO.out.next HX4.out, HX4.out.keeps _, HX4.out.kpx (by omega) (by omega), by have := HX4.out.size; omega⟩ : Fw10 w PC BV s.size q g q' g' L c0 (x + 1, (t : Int)) ab a Ds bk bf wq wo false false W) (Ext.refl W).drew)
              clear HX4 HSO
              refine wpIn_region_sp [13, 15] [some (.slice (some ⟨g, 0, none⟩) (s.size + 1) (s.size + 1)), some (.int .i64 (a : Int)), some (.slice (some ⟨g', 0, none⟩) (s.size + 1) (s.size + 1)), some (.int .i64 (a : Int)), some (.slice (some ⟨g, 0, none⟩) (s.size + 1) (s.size + 1)), some (.int .i64 (a : Int)), some (.int .i64 (tn : Int)), some (.int .i64 (k9 : Int)), some (.pointer (some ⟨g, k9, none⟩)), some (.int .i64 x), some (.int .i64 (x + 1)), some (.int .i64 (t : Int)), some (.pointer (some ⟨g, a, none⟩)), some (undef), some (.pointer (some ⟨g', a, none⟩)), some (undef)] (fun k v fl W => True) (fun fl W => Fw10 w PC BV s.size q g q' g' L c0 (x + 1, (t : Int)) ab a Ds bk bf wq wo (fl.getD 0 false) (fl.getD 1 false) W) (by kernel_rfl) (by kernel_rfl) (by kernel_rfl) rfl (by decide) (fun fl W W' h hx => h.next hx) (fun k v fl W W' h hx => trivial) (HW10.out) ⟨?_, ?_, ?_, ?_, ?_, ?_, ?_, ?_, ?_, ?_, ?_, ?_, ?_, ?_, ?_, ?_, trivial⟩ ?_
              · intro U fl W hS hl hn hd hR
                obtain ⟨f0, f1, rfl⟩ := flen2 hl
                obtain rfl : f0 = false := hn 0 (by decide) (by kernel_rfl)
                clear hR hl hn hd
                have hT : Fw10 w PC BV s.size q g q' g' L c0 (x + 1, (t : Int)) ab a Ds bk bf wq wo _ _ W := hS; clear hS
                have y1 := hT.t.b8.cell 0 _ rfl; have l1 := hT.t.b8.lt
                refine StepZ.go rfl ?_
                go_simp
                exact ⟨Turn.ext rfl (by repeat (first | exact Ext.refl _ | assumption | refine Ext.alloc ?_ _ | refine Ext.drew ?_ | refine Ext.drewN ?_ _ | (refine Ext.setCell ?_ (by simp <;> omega) _) | refine Ext.trans ?_ (by assumption))), givesS_k (by kernel_rfl)⟩
              · intro U fl W hS hl hn hd hR
                obtain ⟨f0, f1, rfl⟩ := flen2 hl
                obtain rfl : f0 = false := hn 0 (by decide) (by kernel_rfl)
                clear hR hl hn hd
                have hT : Fw10 w PC BV s.size q g q' g' L c0 (x + 1, (t : Int)) ab a Ds bk bf wq wo _ _ W := hS; clear hS
                have y1 := hT.t.at_.cell 0 _ rfl; have l1 := hT.t.at_.lt
                refine StepZ.go rfl ?_
                go_simp
                exact ⟨Turn.ext rfl (by repeat (first | exact Ext.refl _ | assumption | refine Ext.alloc ?_ _ | refine Ext.drew ?_ | refine Ext.drewN ?_ _ | (refine Ext.setCell ?_ (by simp <;> omega) _) | refine Ext.trans ?_ (by assumption))), givesS_k (by kernel_rfl)⟩
              · intro U fl W hS hl hn hd hR
                obtain ⟨f0, f1, rfl⟩ := flen2 hl
                obtain rfl : f1 = false := hn 1 (by decide) (by kernel_rfl)
                clear hR hl hn hd
                have hT : Fw10 w PC BV s.size q g q' g' L c0 (x + 1, (t : Int)) ab a Ds bk bf wq wo _ _ W := hS; clear hS
                have y1 := hT.t.b9.cell 0 _ rfl; have l1 := hT.t.b9.lt
                refine StepZ.go rfl ?_
                go_simp
                exact ⟨Turn.ext rfl (by repeat (first | exact Ext.refl _ | assumption | refine Ext.alloc ?_ _ | refine Ext.drew ?_ | refine Ext.drewN ?_ _ | (refine Ext.setCell ?_ (by simp <;> omega) _) | refine Ext.trans ?_ (by assumption))), givesS_k (by kernel_rfl)⟩
              · intro U fl W hS hl hn hd hR
                obtain ⟨f0, f1, rfl⟩ := flen2 hl
                obtain rfl : f1 = false := hn 1 (by decide) (by kernel_rfl)
                clear hR hl hn hd
                have hT : Fw10 w PC BV s.size q g q' g' L c0 (x + 1, (t : Int)) ab a Ds bk bf wq wo _ _ W := hS; clear hS
                have y1 := hT.t.at_.cell 0 _ rfl; have l1 := hT.t.at_.lt
                refine StepZ.go rfl ?_
                go_simp
                exact ⟨Turn.ext rfl (by repeat (first | exact Ext.refl _ | assumption | refine Ext.alloc ?_ _ | refine Ext.drew ?_ | refine Ext.drewN ?_ _ | (refine Ext.setCell ?_ (by simp <;> omega) _) | refine Ext.trans ?_ (by assumption))), givesS_k (by kernel_rfl)⟩
              · intro U fl W hS hl hn hd hR
                obtain ⟨f0, f1, rfl⟩ := flen2 hl
                obtain rfl : f0 = false := hn 0 (by decide) (by kernel_rfl)
                clear hR hl hn hd
                have hT : Fw10 w PC BV s.size q g q' g' L c0 (x + 1, (t : Int)) ab a Ds bk bf wq wo _ _ W := hS; clear hS
                have y1 := hT.t.b8.cell 0 _ rfl; have l1 := hT.t.b8.lt
                refine StepZ.go rfl ?_
                go_simp
                exact ⟨Turn.ext rfl (by repeat (first | exact Ext.refl _ | assumption | refine Ext.alloc ?_ _ | refine Ext.drew ?_ | refine Ext.drewN ?_ _ | (refine Ext.setCell ?_ (by simp <;> omega) _) | refine Ext.trans ?_ (by assumption))), givesS_k (by kernel_rfl)⟩
              · intro U fl W hS hl hn hd hR
                obtain ⟨f0, f1, rfl⟩ := flen2 hl
                obtain rfl : f0 = false := hn 0 (by decide) (by kernel_rfl)
                clear hR hl hn hd
                have hT : Fw10 w PC BV s.size q g q' g' L c0 (x + 1, (t : Int)) ab a Ds bk bf wq wo _ _ W := hS; clear hS
                have y1 := hT.t.at_.cell 0 _ rfl; have l1 := hT.t.at_.lt
                refine StepZ.go rfl ?_
                go_simp
                exact ⟨Turn.ext rfl (by repeat (first | exact Ext.refl _ | assumption | refine Ext.alloc ?_ _ | refine Ext.drew ?_ | refine Ext.drewN ?_ _ | (refine Ext.setCell ?_ (by simp <;> omega) _) | refine Ext.trans ?_ (by assumption))), givesS_k (by kernel_rfl)⟩
              · intro U fl W hS hl hn hd hR
                obtain ⟨f0, f1, rfl⟩ := flen2 hl
                obtain rfl : f0 = false := hn 0 (by decide) (by kernel_rfl)
                clear hR hl hn hd
                have hT : Fw10 w PC BV s.size q g q' g' L c0 (x + 1, (t : Int)) ab a Ds bk bf wq wo _ _ W := hS; clear hS
                refine StepZ.go rfl ?_
                go_simp
                exact ⟨Turn.ext rfl (by repeat (first | exact Ext.refl _ | assumption | refine Ext.alloc ?_ _ | refine Ext.drew ?_ | refine Ext.drewN ?_ _ | (refine Ext.setCell ?_ (by simp <;> omega) _) | refine Ext.trans ?_ (by assumption))), givesS_k (by kernel_rfl)⟩
              · intro U fl W hS hl hn hd hR
                obtain ⟨f0, f1, rfl⟩ := flen2 hl
                obtain rfl : f0 = false := hn 0 (by decide) (by kernel_rfl)
                clear hR hl hn hd
                have hT : Fw10 w PC BV s.size q g q' g' L c0 (x + 1, (t : Int)) ab a Ds bk bf wq wo _ _ W := hS; clear hS
                refine StepZ.go rfl ?_
                go_simp
                exact ⟨Turn.ext rfl (by repeat (first | exact Ext.refl _ | assumption | refine Ext.alloc ?_ _ | refine Ext.drew ?_ | refine Ext.drewN ?_ _ | (refine Ext.setCell ?_ (by simp <;> omega) _) | refine Ext.trans ?_ (by assumption))), givesS_k (by kernel_rfl)⟩
              · intro U fl W hS hl hn hd hR
                obtain ⟨f0, f1, rfl⟩ := flen2 hl
                obtain rfl : f0 = false := hn 0 (by decide) (by kernel_rfl)
                clear hR hl hn hd
                have hT : Fw10 w PC BV s.size q g q' g' L c0 (x + 1, (t : Int)) ab a Ds bk bf wq wo _ _ W := hS; clear hS
                refine StepZ.go rfl ?_
                go_simp
                exact ⟨Turn.ext rfl (by repeat (first | exact Ext.refl _ | assumption | refine Ext.alloc ?_ _ | refine Ext.drew ?_ | refine Ext.drewN ?_ _ | (refine Ext.setCell ?_ (by simp <;> omega) _) | refine Ext.trans ?_ (by assumption))), givesS_k (by kernel_rfl)⟩
              · intro U fl W hS hl hn hd hR
                obtain ⟨f0, f1, rfl⟩ := flen2 hl
                obtain rfl : f0 = false := hn 0 (by decide) (by kernel_rfl)
                clear hR hl hn hd
                have hT : Fw10 w PC BV s.size q g q' g' L c0 (x + 1, (t : Int)) ab a Ds bk bf wq wo _ _ W := hS; clear hS
                have y1 := (hT.t.getN HML.out (k := k9) (by omega)).1; have l1 := hT.t.nn.lt; change W.cell? _ = some (.int .i64 ((nT s.size (c0 :: L)).getD k9 0)) at y1; rw [HNB.out] at y1
                refine StepZ.go rfl ?_
                go_simp
                exact ⟨Turn.ext rfl (by repeat (first | exact Ext.refl _ | assumption | refine Ext.alloc ?_ _ | refine Ext.drew ?_ | refine Ext.drewN ?_ _ | (refine Ext.setCell ?_ (by simp <;> omega) _) | refine Ext.trans ?_ (by assumption))), givesS_k (by kernel_rfl)⟩
              · intro U fl W hS hl hn hd hR
                obtain ⟨f0, f1, rfl⟩ := flen2 hl
                obtain rfl : f0 = false := hn 0 (by decide) (by kernel_rfl)
                clear hR hl hn hd
                have hT : Fw10 w PC BV s.size q g q' g' L c0 (x + 1, (t : Int)) ab a Ds bk bf wq wo _ _ W := hS; clear hS
                refine StepZ.go rfl ?_
                go_simp
                exact ⟨Turn.ext rfl (by repeat (first | exact Ext.refl _ | assumption | refine Ext.alloc ?_ _ | refine Ext.drew ?_ | refine Ext.drewN ?_ _ | (refine Ext.setCell ?_ (by simp <;> omega) _) | refine Ext.trans ?_ (by assumption))), givesS_k (by kernel_rfl)⟩
              · intro U fl W hS hl hn hd hR
                obtain ⟨f0, f1, rfl⟩ := flen2 hl
                obtain rfl : f1 = false := hn 1 (by decide) (by kernel_rfl)
                clear hR hl hn hd
                have hT : Fw10 w PC BV s.size q g q' g' L c0 (x + 1, (t : Int)) ab a Ds bk bf wq wo _ _ W := hS; clear hS
                refine StepZ.go rfl ?_
                go_simp
                exact ⟨Turn.ext rfl (by repeat (first | exact Ext.refl _ | assumption | refine Ext.alloc ?_ _ | refine Ext.drew ?_ | refine Ext.drewN ?_ _ | (refine Ext.setCell ?_ (by simp <;> omega) _) | refine Ext.trans ?_ (by assumption))), givesS_k (by kernel_rfl)⟩
              · intro U fl W hS hl hn hd hR
                obtain ⟨f0, f1, rfl⟩ := flen2 hl
                obtain rfl : f0 = false := hn 0 (by decide) (by kernel_rfl)
                clear hR hl hn hd
                have hT : Fw10 w PC BV s.size q g q' g' L c0 (x + 1, (t : Int)) ab a Ds bk bf wq wo _ _ W := hS; clear hS
                refine StepZ.go rfl ?_
                go_simp
                exact ⟨Turn.ext rfl (by repeat (first | exact Ext.refl _ | assumption | refine Ext.alloc ?_ _ | refine Ext.drew ?_ | refine Ext.drewN ?_ _ | (refine Ext.setCell ?_ (by simp <;> omega) _) | refine Ext.trans ?_ (by assumption))), givesS_k (by kernel_rfl)⟩
              · intro U fl W hS hl hn hd hR
                obtain ⟨f0, f1, rfl⟩ := flen2 hl
                obtain rfl : f0 = false := hn 0 (by decide) (by kernel_rfl)
                clear hR hl hn hd
                have hT : Fw10 w PC BV s.size q g q' g' L c0 (x + 1, (t : Int)) ab a Ds bk bf wq wo _ _ W := hS; clear hS
                have y1 := (hT.t.getN HML.out (k := a) (by omega)).1; have yf := (hT.t.getN HML.out (k := a) (by omega)).2.1; have l1 := hT.t.nn.lt
                refine StepZ.go rfl ?_
                go_simp
                exact ⟨rfl, Turn.sp rfl (hT.sN HAL.out HKG.out.1) (fun k9 v9 hk9 h9 => trivial), givesS_k (by kernel_rfl)⟩
              · intro U fl W hS hl hn hd hR
                obtain ⟨f0, f1, rfl⟩ := flen2 hl
                obtain rfl : f1 = false := hn 1 (by decide) (by kernel_rfl)
                clear hR hl hn hd
                have hT : Fw10 w PC BV s.size q g q' g' L c0 (x + 1, (t : Int)) ab a Ds bk bf wq wo _ _ W := hS; clear hS
                refine StepZ.go rfl ?_
                go_simp
                exact ⟨Turn.ext rfl (by repeat (first | exact Ext.refl _ | assumption | refine Ext.alloc ?_ _ | refine Ext.drew ?_ | refine Ext.drewN ?_ _ | (refine Ext.setCell ?_ (by simp <;> omega) _) | refine Ext.trans ?_ (by assumption))), givesS_k (by kernel_rfl)⟩
              · intro U fl W hS hl hn hd hR
                obtain ⟨f0, f1, rfl⟩ := flen2 hl
                obtain rfl : f1 = false := hn 1 (by decide) (by kernel_rfl)
                clear hR hl hn hd
                have hT : Fw10 w PC BV s.size q g q' g' L c0 (x + 1, (t : Int)) ab a Ds bk bf wq wo _ _ W := hS; clear hS
                have y1 := (hT.t.getF (by cases f0 <;> exact HML.out) (k := a) (by omega)).1; have yf := (hT.t.getF (by cases f0 <;> exact HML.out) (k := a) (by omega)).2.1; have l1 := hT.t.ff.lt
                refine StepZ.go rfl ?_
                go_simp
                exact ⟨rfl, Turn.sp rfl (hT.sF HAL.out HKG.out.2) (fun k9 v9 hk9 h9 => trivial), givesS_k (by kernel_rfl)⟩
              · intro U W hS hR
                clear hR
                have hT : Fw10 w PC BV s.size q g q' g' L c0 (x + 1, (t : Int)) ab a Ds bk bf wq wo true true W := hS; clear hS
                simp only [putAll, vu, Act.put, List.setIfInBounds_toArray, List.set_cons_zero, List.set_cons_succ]
                have HTT := Lib.hid hT
                clear hT
                gi_wp2
                refine ⟨HTT.out.kf, HTT.out.kp, ?_, by have := HTT.out.kf.size; omega⟩
                rw [HSN.out]; exact HTT.out.t
              -- END D
        case done =>
          rintro D xs W hD rfl ⟨hS2, _⟩ hK
          have HTN : Hid (fewL f.sorts bz L a (begTo f.sorts sx.data.toList f.sorts.length) :: L = fewTab f.sorts s.data.toList bz (j + 1)) := Lib.hid (by
            have e : s.data.toList.length - (j + 1) = a := by rw [HSL.out]; omega
            rw [fewTab, e, HLE.out]
            congr 1
            exact congrArg (fun l => fewL f.sorts bz (fewTab f.sorts s.data.toList bz j) a (begTo f.sorts l f.sorts.length)) HSX.out)
          rw [HTN.out] at hS2
          have HS3 := Lib.hid (hS2.cons hK (Nat.le_trans hq0 hD) fun E hE => Nat.lt_of_lt_of_le (HMB.out E hE) hD)
          have y1 := hS2.at_.cell 0 _ rfl; have l1 := hS2.at_.lt
          have u7 : IntKind.i64.wrap ((a : Int) - 1) = (a : Int) - 1 := IntWalk.i64_in _ (by omega)
          clear hS2 hK hD hq1 hq2 HBS
          dsimp only
          go_wp2
          refine ⟨D :: Ds, rfl, rfl, ⟨j + 1, _, by omega, rfl, .inr ?_, Lib.hid ?_⟩, ?_⟩
          · have e : (s.size : Int) - 1 - ((j + 1 : Nat) : Int) = (a : Int) - 1 := by omega
            rw [e]; rfl
          · have e : (s.size : Int) - 1 - ((j + 1 : Nat) : Int) = (a : Int) - 1 := by omega
            rw [e]; exact HS3.out.newAt _
          · rcases H29.out with h | h
            · rw [h, show upOf s.size undef = s.size + 1 from rfl]
              show upOf s.size (.int .i64 ((a : Int) - 1)) < s.size + 1
              unfold upOf; simp only; omega
            · rw [h]
              show upOf s.size (.int .i64 ((a : Int) - 1)) < upOf s.size (.int .i64 (a : Int))
              unfold upOf; simp only; omega
        case stop => exact fun _ _ _ _ _ _ h _ => h.elim
end Go.Proofs.YtccdnieoaejgdaaGreatDoor
