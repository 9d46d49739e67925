/-
  Walk: the least set that excludes itself (page.Excluding).
-/
import Derived.Test.YtfkjhgcablakgaaGreatDoorMostSt
namespace Go.Proofs.YtfkjhgcablakgaaGreatDoor
open Go.RowKit Go.Shelf
attribute [local go_sem] Oper.semAt_some wide_fn wide_depth
attribute [local go_sem ↓] Go.wp_at_zero Go.wp_at_succ

theorem Blk.new4 (w : World) (o o' o'' o3 : Obj) (t : TypeId) (cs : Array Value) : Blk (((((w.alloc o).alloc o').alloc o'').alloc o3).alloc (.cells cs t)) (w.heap.size + 1 + 1 + 1 + 1) t cs := by
  have h := Blk.new ((((w.alloc o).alloc o').alloc o'').alloc o3) t cs; rwa [World.size_alloc, World.size_alloc, World.size_alloc, World.size_alloc] at h
structure ExS (w X : World) (g : Nat) (sb : Array Value) : Prop where
  ext : Ext w X
  b1 : Blk X (w.heap.size + 1 + 1) 25 #[.slice none 0 0]
  b2 : Blk X (w.heap.size + 1 + 1 + 1) 3 #[.int .i64 0]
  b3 : Blk X (w.heap.size + 1 + 1 + 1 + 1) 33 #[.int .i64 0]
  bk : Blk X g 98 sb
theorem ExS.ext' {w X Y : World} {g : Nat} {sb : Array Value} (h : ExS w X g sb) (hx : Ext X Y) : ExS w Y g sb := ⟨h.ext.trans hx, h.b1.ext hx, h.b2.ext hx, h.b3.ext hx, h.bk.ext hx⟩
/-- What a way out leaves. -/
structure ExR (w : World) (Ds : List Nat) (n z : Int) (zs : List Int) (X : World) : Prop where
  ext : Ext w X
  mks : Marks w.heap.size Ds X
  out : ∃ A c, Blk X (w.heap.size + 1 + 1) 25 #[.slice A zs.length c] ∧ RI X A zs.length zs
  b2 : Blk X (w.heap.size + 1 + 1 + 1) 3 #[.int .i64 n]
  b3 : Blk X (w.heap.size + 1 + 1 + 1 + 1) 33 #[.int .i64 z]
theorem ExR.ext' {w X Y : World} {Ds : List Nat} {n z : Int} {zs : List Int} (h : ExR w Ds n z zs X) (hx : Ext X Y) : ExR w Ds n z zs Y :=
  ⟨h.ext.trans hx, h.mks.ext hx, let ⟨A, c, h1, h2⟩ := h.out; ⟨A, c, h1.ext hx, h2.ext hx⟩, h.b2.ext hx, h.b3.ext hx⟩
theorem ExR.putObj {w X : World} {Ds : List Nat} {n z : Int} {zs : List Int} {k : Nat} {o : Obj} (h : ExR w Ds n z zs X) (hk : w.heap.size + 1 + 1 + 1 + 1 < k) (hD : ∀ D, D ∈ Ds → D ≠ k) (ho : ∃ o : Obj, X.heap[k]? = some o ∧ o.isCells = false) : ExR w Ds n z zs (X.putObj k o) := by
  obtain ⟨o1, h1, h2⟩ := ho
  obtain ⟨A, c, h3, h4⟩ := h.out
  exact ⟨h.ext.putObj (by omega) _, h.mks.putObj hD, ⟨A, c, h3.putObj (by omega), h4.putObj h1 h2⟩, h.b2.putObj (by omega), h.b3.putObj (by omega)⟩
/-- The results are stored. -/
theorem ExR.store {w X : World} {Ds : List Nat} {g : Nat} {sb : Array Value} {n z : Int} {zs : List Int} {A : Option Addr} {c : Nat} (h : ExS w X g sb) (hm : Marks w.heap.size Ds X) (hr : RI X A zs.length zs) (hA : ∀ a, A = some a → a.block ≠ w.heap.size + 1 + 1 ∧ a.block ≠ w.heap.size + 1 + 1 + 1 ∧ a.block ≠ w.heap.size + 1 + 1 + 1 + 1) :
    ExR w Ds n z zs (((X.setCell ⟨w.heap.size + 1 + 1, 0, none⟩ (.slice A zs.length c)).setCell ⟨w.heap.size + 1 + 1 + 1, 0, none⟩ (.int .i64 n)).setCell ⟨w.heap.size + 1 + 1 + 1 + 1, 0, none⟩ (.int .i64 z)) ∧ But [w.heap.size + 1 + 1, w.heap.size + 1 + 1 + 1, w.heap.size + 1 + 1 + 1 + 1] X (((X.setCell ⟨w.heap.size + 1 + 1, 0, none⟩ (.slice A zs.length c)).setCell ⟨w.heap.size + 1 + 1 + 1, 0, none⟩ (.int .i64 n)).setCell ⟨w.heap.size + 1 + 1 + 1 + 1, 0, none⟩ (.int .i64 z)) := by
  have hb : But [w.heap.size + 1 + 1, w.heap.size + 1 + 1 + 1, w.heap.size + 1 + 1 + 1 + 1] X (((X.setCell ⟨w.heap.size + 1 + 1, 0, none⟩ (.slice A zs.length c)).setCell ⟨w.heap.size + 1 + 1 + 1, 0, none⟩ (.int .i64 n)).setCell ⟨w.heap.size + 1 + 1 + 1 + 1, 0, none⟩ (.int .i64 z)) :=
    (((But.setCell X ⟨w.heap.size + 1 + 1, 0, none⟩ _).wider (by simp)).trans ((But.setCell _ ⟨w.heap.size + 1 + 1 + 1, 0, none⟩ _).wider (by simp))).trans ((But.setCell _ ⟨w.heap.size + 1 + 1 + 1 + 1, 0, none⟩ _).wider (by simp))
  refine ⟨⟨((h.ext.setCell (p := ⟨w.heap.size + 1 + 1, 0, none⟩) (by simp only; omega) _).setCell (p := ⟨w.heap.size + 1 + 1 + 1, 0, none⟩) (by simp only; omega) _).setCell (p := ⟨w.heap.size + 1 + 1 + 1 + 1, 0, none⟩) (by simp only; omega) _, hm.but hb fun D hD => ?_, ⟨A, c, ((h.b1.set_ 0 _).far (p := ⟨w.heap.size + 1 + 1 + 1, 0, none⟩) (by simp <;> omega) _).far (p := ⟨w.heap.size + 1 + 1 + 1 + 1, 0, none⟩) (by simp <;> omega) _, hr.but hb fun a ha => ?_⟩, ((h.b2.far (p := ⟨w.heap.size + 1 + 1, 0, none⟩) (by simp <;> omega) _).set_ 0 _).far (p := ⟨w.heap.size + 1 + 1 + 1 + 1, 0, none⟩) (by simp <;> omega) _, ((h.b3.far (p := ⟨w.heap.size + 1 + 1, 0, none⟩) (by simp <;> omega) _).far (p := ⟨w.heap.size + 1 + 1 + 1, 0, none⟩) (by simp <;> omega) _).set_ 0 _⟩, hb⟩
  · have h1 := hm.ne h.b1 D hD; have h2 := hm.ne h.b2 D hD; have h3 := hm.ne h.b3 D hD
    simp [h1, h2, h3]
  · obtain ⟨h1, h2, h3⟩ := hA a ha
    simp [h1, h2, h3]
/-- A list, a number and an error. -/
def RetZNE (zs : List Int) (n z : Int) (w : World) (e : Ending) (w' : World) : Prop := ∃ A c, e = .returned (.tuple #[.slice A zs.length c, .int .i64 n, .int .i64 z]) ∧ RI w' A zs.length zs ∧ Ext w w'
def lstV (s : ST) : Option (List Int) := least s.ns.length (laB s.cs s.zs) (s.ns.length + 1) 0
def exvL (f : FT) (s : ST) : List Int := if standE f s.cs s.zs ≠ 0 then [] else (lstV s).getD []
def exvN (f : FT) (s : ST) : Int := if standE f s.cs s.zs ≠ 0 then 0 else match lstV s with | some l => shortE s.cs s.zs l - 1 | none => 0
def exvE (f : FT) (s : ST) : Int := if standE f s.cs s.zs ≠ 0 then standE f s.cs s.zs else match lstV s with | some _ => 0 | none => 12
set_option maxRecDepth 100000 in
set_option maxHeartbeats 16000000 in
theorem pExcluding_any (f : FT) (A : Option Addr) (c : Nat) (s : ST) (w : World) (hf : FR w A c f) (hs : SR w s) :
    Calls Tryz.prog 21 #[f.val A c, s.val] w (RetZNE (exvL f s) (exvN f s) (exvE f s) w) := by
  have cST := fun W h1 h2 => pStandOf_any f A c s W h1 h2
  have HF := Lib.hid hf; have HSR := Lib.hid hs
  by_cases h1 : standE f s.cs s.zs = 0
  case neg =>
    have hM : exvL f s = [] := by unfold exvL; rw [if_pos h1]
    have hM2 : exvN f s = 0 := by unfold exvN; rw [if_pos h1]
    have hM3 : exvE f s = standE f s.cs s.zs := by unfold exvE; rw [if_pos h1]
    have hV : stV f s = .agg #[.slice none 0 0, .slice none 0 0] := by unfold stV; rw [if_neg h1]
    rw [hM, hM2, hM3]
    rw [hV] at cST
    have e0 : (standE f s.cs s.zs != 0) = true := by simpa using h1
    clear hf hs hM hM2 hM3 hV h1
    generalize standE f s.cs s.zs = z at *
    obtain ⟨name, body, ss⟩ := f
    obtain ⟨B, d, cs, D, e, ns⟩ := s
    simp only [ST.val, FT.val] at *
    have CST := Lib.hid cST; clear cST
    go_enter Tryz.func21, Tryz.ntmps21
    go_wp2_with (first | (go_at_call 60; refine Calls.mono (CST.out _ (HF.out.ext (by repeat first | exact yx0 _ | assumption | refine yxa ?_ _ | refine yxd ?_ | refine yxn ?_ _ | refine yxs ?_ (by simp <;> omega) _ | refine yxt ?_ (by assumption))) (HSR.out.ext (by repeat first | exact yx0 _ | assumption | refine yxa ?_ _ | refine yxd ?_ | refine yxn ?_ _ | refine yxs ?_ (by simp <;> omega) _ | refine yxt ?_ (by assumption)))) ?_; rintro e9 w1 ⟨rfl, hb⟩; have HX1 := Lib.hid (Ext.trans (a := w) (by repeat first | exact yx0 _ | assumption | refine yxa ?_ _ | refine yxd ?_ | refine yxn ?_ _ | refine yxs ?_ (by simp <;> omega) _ | refine yxt ?_ (by assumption)) hb); have HQ1 := Lib.hid (((Blk.new2 w _ _ 25 #[.slice none 0 0]).alloc (.cells #[.int .i64 0] 3)).alloc (.cells #[.int .i64 0] 33) |>.ext hb); have HQ2 := Lib.hid ((Blk.new3 w _ _ _ 3 #[.int .i64 0]).alloc (.cells #[.int .i64 0] 33) |>.ext hb); have HQ3 := Lib.hid (Blk.ext (Blk.new4 w _ _ _ _ 33 #[.int .i64 0]) hb); have HS := Lib.hid (((((Blk.new1 w _ 45 #[.slice B cs.length d, .slice D ns.length e]).alloc _).alloc _).alloc _).ext hb); clear hb; obtain ⟨q1, qf1, ql1⟩ := HQ1.out.c1; obtain ⟨q2, qf2, ql2⟩ := HQ2.out.c1; obtain ⟨q3, qf3, ql3⟩ := HQ3.out.c1; obtain ⟨m0, m1, _, _, ml⟩ := HS.out.c2))
    have g1 := ((((HQ1.out.set_ 0 (.slice none 0 0)).far (p := ⟨w.heap.size + 1 + 1 + 1, 0, none⟩) (by simp <;> omega) (.int .i64 0)).far (p := ⟨w.heap.size + 1 + 1 + 1 + 1, 0, none⟩) (by simp <;> omega) (.int .i64 z)).alloc (.cells #[.slice none 0 0, .slice none 0 0] 98)).cell 0 _ rfl
    have g2 := ((((HQ2.out.far (p := ⟨w.heap.size + 1 + 1, 0, none⟩) (by simp <;> omega) (.slice none 0 0)).set_ 0 (.int .i64 0)).far (p := ⟨w.heap.size + 1 + 1 + 1 + 1, 0, none⟩) (by simp <;> omega) (.int .i64 z)).alloc (.cells #[.slice none 0 0, .slice none 0 0] 98)).cell 0 _ rfl
    have g3 := ((((HQ3.out.far (p := ⟨w.heap.size + 1 + 1, 0, none⟩) (by simp <;> omega) (.slice none 0 0)).far (p := ⟨w.heap.size + 1 + 1 + 1, 0, none⟩) (by simp <;> omega) (.int .i64 0)).set_ 0 (.int .i64 z)).alloc (.cells #[.slice none 0 0, .slice none 0 0] 98)).cell 0 _ rfl
    refine bodyPost_ret (v := .tuple #[.slice none 0 0, .int .i64 0, .int .i64 z]) (by simp [results, Tryz.results21, go_sem, g1, g2, g3]) rfl ?_
    exact ⟨none, 0, rfl, RI.nil, by have hx9 := HX1.out; have hx8 := HX1.out.size; exact (by repeat first | exact yx0 _ | assumption | refine yxa ?_ _ | refine yxd ?_ | refine yxn ?_ _ | refine yxs ?_ (by simp <;> omega) _ | refine yxt ?_ (by assumption))⟩
  case pos =>
  have hV : stV f s = s.val := by unfold stV; rw [if_pos h1]
  have hR : Right s := Right.of h1
  rw [hV, h1] at cST
  have hN := hR.few
  have hmn : ∀ r k : Nat, (comb s.ns.length k s.ns.length).find? (laB s.cs s.zs) = none → least s.ns.length (laB s.cs s.zs) (r + 1) k = least s.ns.length (laB s.cs s.zs) r (k + 1) := fun r k h => by rw [least, h]
  have hms : ∀ (r k : Nat) l, (comb s.ns.length k s.ns.length).find? (laB s.cs s.zs) = some l → least s.ns.length (laB s.cs s.zs) (r + 1) k = some l := fun r k l h => by rw [least, h]
  have hm0 : ∀ k, least s.ns.length (laB s.cs s.zs) 0 k = none := fun _ => rfl
  have HV0 : Hid (least s.ns.length (laB s.cs s.zs) (s.ns.length + 1) 0 = none → exvL f s = [] ∧ exvN f s = 0 ∧ exvE f s = 12) := Lib.hid fun h => by
    unfold exvL exvN exvE lstV
    rw [if_neg (by simpa using h1), if_neg (by simpa using h1), if_neg (by simpa using h1), h]
    exact ⟨rfl, rfl, rfl⟩
  have HV1 : Hid (∀ l, least s.ns.length (laB s.cs s.zs) (s.ns.length + 1) 0 = some l → exvL f s = l ∧ exvN f s = shortE s.cs s.zs l - 1 ∧ exvE f s = 0) := Lib.hid fun l h => by
    unfold exvL exvN exvE lstV
    rw [if_neg (by simpa using h1), if_neg (by simpa using h1), if_neg (by simpa using h1), h]
    exact ⟨rfl, rfl, rfl⟩
  have CSS : Hid (∀ X cx zs W, SR W s → RI W X zs.length zs → Rise 0 s.ns.length zs → Calls Tryz.prog 64 #[s.val, .slice X zs.length cx] W (Ret (lacksV s zs) W)) := Lib.hid fun X cx zs W h1 h2 h3 => pLacks_any s X cx zs W h1 h2 hR h3
  have HSB0 : Hid (∀ zs, laB s.cs s.zs zs = false → lacksV s zs = .tuple #[.int .i64 0, .bool false]) := Lib.hid fun zs h => by
    have h9 := of_decide_eq_false h
    unfold lacksV; rw [if_pos (by simpa using h9)]
  have HSB1 : Hid (∀ zs, laB s.cs s.zs zs = true → lacksV s zs = .tuple #[.int .i64 (shortE s.cs s.zs zs - 1), .bool true]) := Lib.hid fun zs h => by
    have h9 := of_decide_eq_true h
    unfold lacksV; rw [if_neg (by simpa using h9)]
  have HCM : Hid (∀ k zs, zs ∈ comb s.ns.length k s.ns.length → Rise 0 s.ns.length zs) := Lib.hid fun k zs h => by
    have h9 := ((comb_mem s.ns.length k s.ns.length zs).1 h).2
    rwa [Int.sub_self] at h9
  have HSF : Hid (∀ cb sb fb count base W, Cpt W cb sb fb s count → count ≤ 100 → base ≤ cb ∧ base ≤ sb ∧ base ≤ fb → Finds Tryz.prog 102 #[.pointer (some ⟨fb, 0, none⟩)] (comb s.ns.length count s.ns.length) base W) := Lib.hid fun cb sb fb count base W h1 h2 h3 => sets_finds s cb sb fb count base W h1 h2 hN h3
  have CSE := Lib.hid (fun count W => sets_any s count W)
  clear hf hs hV h1 hR
  have HMS := Lib.hid hms; have HMN := Lib.hid hmn; have HM0 := Lib.hid hm0
  clear hms hmn hm0
  generalize exvL f s = vL at *
  generalize exvN f s = vN at *
  generalize exvE f s = vE at *
  obtain ⟨sh, hsh⟩ : ∃ sh : List Int → Int, ∀ l, sh l = shortE s.cs s.zs l - 1 := ⟨_, fun _ => rfl⟩
  simp only [← hsh] at HV1 HSB1
  generalize lacksV s = lv at *
  generalize hPd : laB s.cs s.zs = Pd at *
  clear hPd hsh
  generalize hmo : least s.ns.length Pd = mo at *
  clear hmo
  obtain ⟨name, body, ss⟩ := f
  obtain ⟨B, d, cs, D, e, ns⟩ := s
  have hsv : ST.val ⟨B, d, cs, D, e, ns⟩ = .agg #[.slice B cs.length d, .slice D ns.length e] := rfl
  simp only [FT.val, hsv] at *
  have CST := Lib.hid cST; clear cST hsv
  have hn1 : IntKind.i64.wrap ((ns.length : Int) + 1) = ((ns.length + 1 : Nat) : Int) := by rw [IntWalk.i64_in _ (by omega)]; omega
  refine (callsIn_wide (n := 3)).1 ?_
  refine callsIn_of_wp_marks Tryz.func21 rfl trivial ?_ rfl
  simp only [Tryz.ntmps21, List.size_toArray, List.length_cons, List.length_nil, Nat.reduceAdd, Nat.reduceSub, Array.replicate_succ, Array.replicate_zero, List.push_toArray, List.append_toArray, List.nil_append, List.cons_append]
  refine wpIn_wide.2 ?_
  go_upto_region 4 with (first | (go_at_call 60; refine Calls.mono (CST.out _ (HF.out.ext (by repeat first | exact yx0 _ | assumption | refine yxa ?_ _ | refine yxd ?_ | refine yxn ?_ _ | refine yxs ?_ (by simp <;> omega) _ | refine yxt ?_ (by assumption))) (HSR.out.ext (by repeat first | exact yx0 _ | assumption | refine yxa ?_ _ | refine yxd ?_ | refine yxn ?_ _ | refine yxs ?_ (by simp <;> omega) _ | refine yxt ?_ (by assumption)))) ?_; rintro e9 w1 ⟨rfl, hb⟩; have HX1 := Lib.hid (Ext.trans (a := w) (by repeat first | exact yx0 _ | assumption | refine yxa ?_ _ | refine yxd ?_ | refine yxn ?_ _ | refine yxs ?_ (by simp <;> omega) _ | refine yxt ?_ (by assumption)) hb); have HQ1 := Lib.hid (((Blk.new2 w _ _ 25 #[.slice none 0 0]).alloc (.cells #[.int .i64 0] 3)).alloc (.cells #[.int .i64 0] 33) |>.ext hb); have HQ2 := Lib.hid ((Blk.new3 w _ _ _ 3 #[.int .i64 0]).alloc (.cells #[.int .i64 0] 33) |>.ext hb); have HQ3 := Lib.hid (Blk.ext (Blk.new4 w _ _ _ _ 33 #[.int .i64 0]) hb); have HS := Lib.hid (((((Blk.new1 w _ 45 #[.slice B cs.length d, .slice D ns.length e]).alloc _).alloc _).alloc _).ext hb); clear hb; obtain ⟨q1, qf1, ql1⟩ := HQ1.out.c1; obtain ⟨q2, qf2, ql2⟩ := HQ2.out.c1; obtain ⟨q3, qf3, ql3⟩ := HQ3.out.c1; obtain ⟨m0, m1, _, _, ml⟩ := HS.out.c2))
  obtain ⟨wq, hwq⟩ : ∃ wq, w1.alloc (.cells #[.slice B cs.length d, .slice D ns.length e] 98) = wq := ⟨_, rfl⟩
  have HM0' : Hid (ExS w wq w1.heap.size #[.slice B cs.length d, .slice D ns.length e]) := Lib.hid (by rw [← hwq]; exact ⟨HX1.out.trans (by repeat first | exact yx0 _ | assumption | refine yxa ?_ _ | refine yxd ?_ | refine yxn ?_ _ | refine yxs ?_ (by simp <;> omega) _ | refine yxt ?_ (by assumption)), HQ1.out.ext (by repeat first | exact yx0 _ | assumption | refine yxa ?_ _ | refine yxd ?_ | refine yxn ?_ _ | refine yxs ?_ (by simp <;> omega) _ | refine yxt ?_ (by assumption)), HQ2.out.ext (by repeat first | exact yx0 _ | assumption | refine yxa ?_ _ | refine yxd ?_ | refine yxn ?_ _ | refine yxs ?_ (by simp <;> omega) _ | refine yxt ?_ (by assumption)), HQ3.out.ext (by repeat first | exact yx0 _ | assumption | refine yxa ?_ _ | refine yxd ?_ | refine yxn ?_ _ | refine yxs ?_ (by simp <;> omega) _ | refine yxt ?_ (by assumption)), Blk.new w1 _ _⟩)
  have HSQ : Hid (Blk wq (w.heap.size + 1) 45 #[.slice B cs.length d, .slice D ns.length e]) := Lib.hid (by rw [← hwq]; exact HS.out.ext (by repeat first | exact yx0 _ | assumption | refine yxa ?_ _ | refine yxd ?_ | refine yxn ?_ _ | refine yxs ?_ (by simp <;> omega) _ | refine yxt ?_ (by assumption)))
  (try rw [hwq])
  clear hwq q1 qf1 ql1 q2 qf2 ql2 q3 qf3 ql3 m0 m1 ml HQ1 HQ2 HQ3 HX1 HS
  obtain ⟨m0, m1, _, _, ml⟩ := HSQ.out.c2
  go_upto_block 0 with fail
  go_step
  clear m0 m1 ml
  refine wp_loop_m [false, false, false, false, false, false, false, false, false, true, true, true, true, false, false, false, false, false, false, false, false, false, false, false, false, false, true, true, true, true, true, true, true, true, true, true, true, true, true, true, true, true, true] 26 (fun U Ds wr => ∃ k : Nat, k ≤ ns.length + 1 ∧ U 26 = .int .i64 (k : Int) ∧ Hid (Marks w.heap.size Ds wr) ∧ Hid (ExS w wr w1.heap.size #[.slice B cs.length d, .slice D ns.length e]) ∧ Hid (mo (ns.length + 1) 0 = mo (ns.length + 1 - k) k)) (fun v => ns.length + 1 - (intOf v).toNat) [] rfl ?_ ?_
  · exact ⟨0, Nat.zero_le _, rfl, Lib.hid (Marks.nil _ _), HM0', Lib.hid rfl⟩
  intro U Ds wr hrel
  obtain ⟨k, hk, h26, HMK, HM, HE⟩ := hrel
  clear HM0'
  simp only [over, Nat.reduceAdd, h26]
  by_cases h0 : k = ns.length + 1
  · subst h0
    obtain ⟨p1, pf1, pl1⟩ := HM.out.b1.c1; obtain ⟨p2, pf2, pl2⟩ := HM.out.b2.c1; obtain ⟨p3, pf3, pl3⟩ := HM.out.b3.c1
    obtain ⟨hv1, hv2, hv3⟩ := HV0.out (by rw [HE.out, Nat.sub_self]; exact HM0.out _)
    subst hv1 hv2 hv3
    have i1 : ¬ (((ns.length + 1 : Nat) : Int) < ((ns.length + 1 : Nat) : Int)) := by omega
    go_wp2
    have HR9 := Lib.hid (ExR.store (c := 0) (zs := []) (n := 0) (z := 12) HM.out HMK.out (RI.nil (w := wr)) (fun a ha => by cases ha)).1
    simp only [List.length_nil] at HR9
    refine leaves_marks (n0 := w.heap.size) Ds _ HR9.out.mks fun w' hb' hc' => ?_
    obtain ⟨A9, c9, h9, h8⟩ := HR9.out.out
    have g1 := hc'.cell (h9.cell 0 _ rfl)
    have g2 := hc'.cell (HR9.out.b2.cell 0 _ rfl)
    have g3 := hc'.cell (HR9.out.b3.cell 0 _ rfl)
    exact ⟨_, by simp [results, Tryz.results21, go_sem, g1, g2, g3], ⟨A9, c9, rfl, hc'.ri h8, Below.trans (HR9.out.ext : Below w.heap.size w _) hb'⟩⟩
  · obtain ⟨p1, pf1, pl1⟩ := HM.out.b1.c1; obtain ⟨p2, pf2, pl2⟩ := HM.out.b2.c1; obtain ⟨p3, pf3, pl3⟩ := HM.out.b3.c1; obtain ⟨n0, n1, _, _, nl⟩ := HM.out.bk.c2
    have i1 : (k : Int) < ((ns.length + 1 : Nat) : Int) := by omega
    have CSX := Lib.hid (fun W => CSE.out k W)
    have HKN : Hid (k ≤ ns.length) := Lib.hid (by omega)
    have hsub : ns.length + 1 - k = (ns.length - k) + 1 := by omega
    rw [hsub] at HE
    have HHN := Lib.hid (fun h => HE.out.trans (HMN.out (ns.length - k) k h))
    have HHS := Lib.hid (fun l h => HE.out.trans (HMS.out (ns.length - k) k l h))
    clear h0 hsub HE
    go_upto_block 2 with (first | (go_at_call 61; refine Calls.mono (CSX.out _) ?_; rintro e9 w3 ⟨rfl, hcp, hb⟩; have HCP := Lib.hid hcp; have HX3 := Lib.hid (Ext.trans (a := wr) (by repeat first | exact yx0 _ | assumption | refine yxa ?_ _ | refine yxd ?_ | refine yxn ?_ _ | refine yxs ?_ (by simp <;> omega) _ | refine yxt ?_ (by assumption)) hb); clear hcp hb))
    go_step
    have HM3 := Lib.hid (HM.out.ext' HX3.out); have HK3 := Lib.hid (HMK.out.ext HX3.out)
    have HLT : Hid (w.heap.size + 1 + 1 < wr.heap.size ∧ w.heap.size + 1 + 1 + 1 < wr.heap.size ∧ w.heap.size + 1 + 1 + 1 + 1 < wr.heap.size) := Lib.hid ⟨pl1, pl2, pl3⟩
    have HSZ := Lib.hid HX3.out.size
    clear p1 pf1 pl1 p2 pf2 pl2 p3 pf3 pl3 n0 n1 nl
    refine (wpIn_wide (n := 3)).1 ?_
    refine wp_find (n := 3) (by decide) (gf := 102) (lb := #[.pointer (some ⟨wr.heap.size + 1 + 1, 0, none⟩)]) rfl (enters_of Tryz.func102 (by kernel_rfl) rfl) (Pd := Pd) (HSF.out _ _ _ k wr.heap.size w3 HCP.out (by have := HKN.out; omega) ⟨by omega, by omega, by omega⟩) HSZ.out (Lb := [w.heap.size + 1 + 1, w.heap.size + 1 + 1 + 1, w.heap.size + 1 + 1 + 1 + 1]) (fun k hk => by
        simp only [List.mem_cons, List.not_mem_nil, or_false] at hk
        have := HLT.out; omega) rfl (fun zs X => ExR w Ds (sh zs) 0 zs X) (fun zs X Y h hx => h.ext' hx) (fun zs X k o' h hk ho => h.putObj (by have := HLT.out; have := HSZ.out; omega) (fun D hD => by have := (HK3.out.2 D hD).2.1; omega) ho) ?a1 ?assign ?body ?done ?stop
    case assign =>
      intro l x2 W K hK
      gi_wp2
      exact hK
    case body =>
      rintro l A9 c9 zs W hx hz hri hfar
      have HM4 := Lib.hid (HM3.out.ext' hx)
      have HK4 := Lib.hid (HK3.out.ext hx)
      have CSB := Lib.hid (fun W h1 h2 => CSS.out A9 c9 zs W h1 h2 (HCM.out _ _ hz))
      have HRI := Lib.hid hri
      have HXW := Lib.hid (HM4.out.ext)
      have HFA : Hid (∀ a, A9 = some a → a.block ≠ w.heap.size + 1 + 1 ∧ a.block ≠ w.heap.size + 1 + 1 + 1 ∧ a.block ≠ w.heap.size + 1 + 1 + 1 + 1) := Lib.hid fun a ha => by have := hfar a ha; have := HLT.out; omega
      obtain ⟨p1, pf1, pl1⟩ := HM4.out.b1.c1; obtain ⟨p2, pf2, pl2⟩ := HM4.out.b2.c1; obtain ⟨p3, pf3, pl3⟩ := HM4.out.b3.c1; obtain ⟨n0, n1, _, _, nl⟩ := HM4.out.bk.c2
      clear hx hz hri hfar
      cases hp : Pd zs with
      | false =>
        rw [HSB0.out zs hp] at CSB
        have HP := Lib.hid hp
        clear hp
        gi_wp2_with (first | (gi_at_call 64; refine CallsIn.mono (CallsIn.inRound l (callsIn_wide.2 (CSB.out _ (HSR.out.ext (HXW.out.trans (by repeat first | exact yx0 _ | assumption | refine yxa ?_ _ | refine yxd ?_ | refine yxn ?_ _ | refine yxs ?_ (by simp <;> omega) _ | refine yxt ?_ (by assumption)))) (HRI.out.ext (by repeat first | exact yx0 _ | assumption | refine yxa ?_ _ | refine yxd ?_ | refine yxn ?_ _ | refine yxs ?_ (by simp <;> omega) _ | refine yxt ?_ (by assumption)))))) ?_; rintro e9 w4 ⟨rfl, hb⟩; have HB4 := Lib.hid (Ext.trans (a := W) (by repeat first | exact yx0 _ | assumption | refine yxa ?_ _ | refine yxd ?_ | refine yxn ?_ _ | refine yxs ?_ (by simp <;> omega) _ | refine yxt ?_ (by assumption)) hb); clear hb))
        exact ⟨HP.out, HB4.out.trans (by repeat first | exact yx0 _ | assumption | refine yxa ?_ _ | refine yxd ?_ | refine yxn ?_ _ | refine yxs ?_ (by simp <;> omega) _ | refine yxt ?_ (by assumption))⟩
      | true =>
        rw [HSB1.out zs hp] at CSB
        have HP := Lib.hid hp
        clear hp
        gi_wp2_with (first | (gi_at_call 64; refine CallsIn.mono (CallsIn.inRound l (callsIn_wide.2 (CSB.out _ (HSR.out.ext (HXW.out.trans (by repeat first | exact yx0 _ | assumption | refine yxa ?_ _ | refine yxd ?_ | refine yxn ?_ _ | refine yxs ?_ (by simp <;> omega) _ | refine yxt ?_ (by assumption)))) (HRI.out.ext (by repeat first | exact yx0 _ | assumption | refine yxa ?_ _ | refine yxd ?_ | refine yxn ?_ _ | refine yxs ?_ (by simp <;> omega) _ | refine yxt ?_ (by assumption)))))) ?_; rintro e9 w4 ⟨rfl, hb⟩; have HB4 := Lib.hid (Ext.trans (a := W) (by repeat first | exact yx0 _ | assumption | refine yxa ?_ _ | refine yxd ?_ | refine yxn ?_ _ | refine yxs ?_ (by simp <;> omega) _ | refine yxt ?_ (by assumption)) hb); have HM5 := Lib.hid (HM4.out.ext' HB4.out); clear hb p1 pf1 pl1 p2 pf2 pl2 p3 pf3 pl3 n0 n1 nl; obtain ⟨p1, pf1, pl1⟩ := HM5.out.b1.c1; obtain ⟨p2, pf2, pl2⟩ := HM5.out.b2.c1; obtain ⟨p3, pf3, pl3⟩ := HM5.out.b3.c1))
        obtain ⟨hs1, hs2⟩ := ExR.store (c := c9) (n := sh zs) (z := 0) HM5.out (HK4.out.ext HB4.out) (HRI.out.ext HB4.out) HFA.out
        exact ⟨HP.out, (But.of_ext HB4.out _).trans hs2, hs1⟩
    case done =>
      intro W hf hx hD
      have HX5 := Lib.hid hx; have HD5 := Lib.hid hD; have HF5 := Lib.hid (HHN.out hf)
      have hw1 : IntKind.i64.wrap ((k : Int) + 1) = ((k + 1 : Nat) : Int) := by have := HKN.out; rw [IntWalk.i64_in _ (by omega)]; omega
      clear hx hD hf
      dsimp only
      go_wp2
      refine ⟨w3.heap.size :: Ds, rfl, rfl, ⟨k + 1, by have := HKN.out; omega, rfl, Lib.hid (Marks.cons (HK3.out.ext HX5.out) HD5.out (by have := HM3.out.ext.size; exact this) (fun E hE => (HK3.out.2 E hE).2.1)), Lib.hid (HM3.out.ext' HX5.out), Lib.hid (by rw [Nat.add_sub_add_right]; exact HF5.out)⟩, ?_⟩
      have := HKN.out
      simp [intOf] <;> omega
    case stop =>
      intro zs W hf hR hD
      have HR5 := Lib.hid hR; have HD5 := Lib.hid hD
      obtain ⟨hv1, hv2, hv3⟩ := HV1.out zs (HHS.out zs hf)
      clear hR hD hf
      refine wpIn_wide.2 ?_
      go_wp2
      rw [hv1, hv2, hv3]
      have HR9 : Hid (ExR w (w3.heap.size :: Ds) (sh zs) 0 zs W) := Lib.hid ⟨HR5.out.ext, Marks.cons HR5.out.mks HD5.out (by have := HM3.out.ext.size; exact this) (fun E hE => (HK3.out.2 E hE).2.1), HR5.out.out, HR5.out.b2, HR5.out.b3⟩
      refine leaves_marks (n0 := w.heap.size) (w3.heap.size :: Ds) _ HR9.out.mks fun w' hb' hc' => ?_
      obtain ⟨A9, c9, h9, h8⟩ := HR9.out.out
      have g1 := hc'.cell (h9.cell 0 _ rfl)
      have g2 := hc'.cell (HR9.out.b2.cell 0 _ rfl)
      have g3 := hc'.cell (HR9.out.b3.cell 0 _ rfl)
      exact ⟨_, by simp [results, Tryz.results21, go_sem, g1, g2, g3], ⟨A9, c9, rfl, hc'.ri h8, Below.trans (HR9.out.ext : Below w.heap.size w _) hb'⟩⟩
end Go.Proofs.YtfkjhgcablakgaaGreatDoor
