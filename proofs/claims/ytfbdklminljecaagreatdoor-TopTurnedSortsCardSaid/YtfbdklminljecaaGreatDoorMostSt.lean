/-
  Walk: the greatest set that stands (page.MostStanding).
-/
import Derived.Test.YtfbdklminljecaaGreatDoorSetsAll
import Derived.Test.YtfbdklminljecaaGreatDoorPLack
import Derived.Test.YtfbdklminljecaaGreatDoorStandAll
import Derived.Test.YtfbdklminljecaaGreatDoorGI
import Derived.Test.YtfbdklminljecaaGreatDoorPgFind
namespace Go.Proofs.YtfbdklminljecaaGreatDoor
open Go.RowKit Go.Shelf
attribute [local go_sem] Oper.semAt_some wide_fn wide_depth
attribute [local go_sem ↓] Go.wp_at_zero Go.wp_at_succ

theorem Marks.putObj {n0 k : Nat} {Ds : List Nat} {X : World} {o : Obj} (h : Marks n0 Ds X) (hk : ∀ D, D ∈ Ds → D ≠ k) : Marks n0 Ds (X.putObj k o) :=
  ⟨h.1, fun D hD => by obtain ⟨h1, h2, h3⟩ := h.2 D hD; exact ⟨h1, by simpa using h2, (World.putObj_heap_other (hk D hD)).trans h3⟩⟩
theorem Blk.putObj {X : World} {g k : Nat} {t : TypeId} {cs : Array Value} {o : Obj} (h : Blk X g t cs) (hk : g ≠ k) : Blk (X.putObj k o) g t cs := (World.putObj_heap_other hk).trans h
theorem Marks.but {n0 : Nat} {Ds L : List Nat} {X Y : World} (h : Marks n0 Ds X) (hb : But L X Y) (hD : ∀ D, D ∈ Ds → D ∉ L) : Marks n0 Ds Y :=
  ⟨h.1, fun D hd => by obtain ⟨h1, h2, h3⟩ := h.2 D hd; exact ⟨h1, Nat.lt_of_lt_of_le h2 hb.size, (hb.block D h2 (hD D hd)).trans h3⟩⟩
theorem Marks.ne {n0 g : Nat} {Ds : List Nat} {X : World} {t : TypeId} {cs : Array Value} (h : Marks n0 Ds X) (hb : Blk X g t cs) : ∀ D, D ∈ Ds → D ≠ g := fun D hd e => by
  obtain ⟨_, _, h3⟩ := h.2 D hd
  unfold Blk at hb
  rw [e, hb] at h3
  cases h3
structure MoS (w X : World) (g : Nat) (sb : Array Value) : Prop where
  ext : Ext w X
  b1 : Blk X (w.heap.size + 1 + 1) 25 #[.slice none 0 0]
  b2 : Blk X (w.heap.size + 1 + 1 + 1) 35 #[.int .i64 0]
  bk : Blk X g 69 sb
theorem MoS.ext' {w X Y : World} {g : Nat} {sb : Array Value} (h : MoS w X g sb) (hx : Ext X Y) : MoS w Y g sb := ⟨h.ext.trans hx, h.b1.ext hx, h.b2.ext hx, h.bk.ext hx⟩
/-- What a round that returns leaves. -/
structure MoR (w : World) (Ds : List Nat) (zs : List Int) (X : World) : Prop where
  ext : Ext w X
  mks : Marks w.heap.size Ds X
  out : ∃ A c, Blk X (w.heap.size + 1 + 1) 25 #[.slice A zs.length c] ∧ RI X A zs.length zs
  b2 : Blk X (w.heap.size + 1 + 1 + 1) 35 #[.int .i64 0]
theorem MoR.ext' {w X Y : World} {Ds : List Nat} {zs : List Int} (h : MoR w Ds zs X) (hx : Ext X Y) : MoR w Ds zs Y :=
  ⟨h.ext.trans hx, h.mks.ext hx, let ⟨A, c, h1, h2⟩ := h.out; ⟨A, c, h1.ext hx, h2.ext hx⟩, h.b2.ext hx⟩
theorem MoR.putObj {w X : World} {Ds : List Nat} {zs : List Int} {k : Nat} {o : Obj} (h : MoR w Ds zs X) (hk : w.heap.size + 1 + 1 + 1 < k) (hD : ∀ D, D ∈ Ds → D ≠ k) (ho : ∃ o : Obj, X.heap[k]? = some o ∧ o.isCells = false) : MoR w Ds zs (X.putObj k o) := by
  obtain ⟨o1, h1, h2⟩ := ho
  obtain ⟨A, c, h3, h4⟩ := h.out
  exact ⟨h.ext.putObj (by omega) _, h.mks.putObj hD, ⟨A, c, h3.putObj (by omega), h4.putObj h1 h2⟩, h.b2.putObj (by omega)⟩
/-- The result is stored. -/
theorem MoR.store {w X : World} {Ds : List Nat} {g : Nat} {sb : Array Value} {zs : List Int} {A : Option Addr} {c : Nat} (h : MoS w X g sb) (hm : Marks w.heap.size Ds X) (hr : RI X A zs.length zs) (hA : ∀ a, A = some a → a.block ≠ w.heap.size + 1 + 1 ∧ a.block ≠ w.heap.size + 1 + 1 + 1) :
    MoR w Ds zs ((X.setCell ⟨w.heap.size + 1 + 1, 0, none⟩ (.slice A zs.length c)).setCell ⟨w.heap.size + 1 + 1 + 1, 0, none⟩ (.int .i64 0)) ∧ But [w.heap.size + 1 + 1, w.heap.size + 1 + 1 + 1] X ((X.setCell ⟨w.heap.size + 1 + 1, 0, none⟩ (.slice A zs.length c)).setCell ⟨w.heap.size + 1 + 1 + 1, 0, none⟩ (.int .i64 0)) := by
  have hb : But [w.heap.size + 1 + 1, w.heap.size + 1 + 1 + 1] X ((X.setCell ⟨w.heap.size + 1 + 1, 0, none⟩ (.slice A zs.length c)).setCell ⟨w.heap.size + 1 + 1 + 1, 0, none⟩ (.int .i64 0)) :=
    ((But.setCell X ⟨w.heap.size + 1 + 1, 0, none⟩ _).wider (by simp)).trans ((But.setCell _ ⟨w.heap.size + 1 + 1 + 1, 0, none⟩ _).wider (by simp))
  refine ⟨⟨(h.ext.setCell (p := ⟨w.heap.size + 1 + 1, 0, none⟩) (by simp only; omega) _).setCell (p := ⟨w.heap.size + 1 + 1 + 1, 0, none⟩) (by simp only; omega) _, hm.but hb fun D hD => ?_, ⟨A, c, (h.b1.set_ 0 _).far (p := ⟨w.heap.size + 1 + 1 + 1, 0, none⟩) (by simp) _, hr.but hb fun a ha => ?_⟩, (h.b2.far (p := ⟨w.heap.size + 1 + 1, 0, none⟩) (by simp) _).set_ 0 _⟩, hb⟩
  · have h1 := hm.ne h.b1 D hD; have h2 := hm.ne h.b2 D hD
    simp [h1, h2]
  · obtain ⟨h1, h2⟩ := hA a ha
    simp [h1, h2]
/-- A list and an error. -/
def RetZE (zs : List Int) (z : Int) (w : World) (e : Ending) (w' : World) : Prop := ∃ A c, e = .returned (.tuple #[.slice A zs.length c, .int .i64 z]) ∧ RI w' A zs.length zs ∧ Ext w w'
def mostV (f : FT) (s : ST) : List Int := if standE f s.cs s.zs ≠ 0 then [] else most s.ns.length (stB s.cs s.zs) s.ns.length
set_option maxRecDepth 100000 in
set_option maxHeartbeats 16000000 in
theorem pMost_any (f : FT) (A : Option Addr) (c : Nat) (s : ST) (w : World) (hf : FR w A c f) (hs : SR w s) :
    Calls Tryz.prog 12 #[f.val A c, s.val] w (RetZE (mostV f s) (standE f s.cs s.zs) w) := by
  have cST := fun W h1 h2 => pStandOf_any f A c s W h1 h2
  have HF := Lib.hid hf; have HSR := Lib.hid hs
  by_cases h1 : standE f s.cs s.zs = 0
  case neg =>
    have hM : mostV f s = [] := by unfold mostV; rw [if_pos h1]
    have hV : stV f s = .agg #[.slice none 0 0, .slice none 0 0] := by unfold stV; rw [if_neg h1]
    rw [hM]
    rw [hV] at cST
    have e0 : (standE f s.cs s.zs != 0) = true := by simpa using h1
    clear hf hs hM hV h1
    generalize standE f s.cs s.zs = z at *
    obtain ⟨name, body, ss⟩ := f
    obtain ⟨B, d, cs, D, e, ns⟩ := s
    simp only [ST.val, FT.val] at *
    have CST := Lib.hid cST; clear cST
    go_enter Tryz.func12, Tryz.ntmps12
    go_wp2_with (first | (go_at_call 28; refine Calls.mono (CST.out _ (HF.out.ext (by repeat first | exact yx0 _ | assumption | refine yxa ?_ _ | refine yxd ?_ | refine yxn ?_ _ | refine yxs ?_ (by simp <;> omega) _ | refine yxt ?_ (by assumption))) (HSR.out.ext (by repeat first | exact yx0 _ | assumption | refine yxa ?_ _ | refine yxd ?_ | refine yxn ?_ _ | refine yxs ?_ (by simp <;> omega) _ | refine yxt ?_ (by assumption)))) ?_; rintro e9 w1 ⟨rfl, hb⟩; have HX1 := Lib.hid (Ext.trans (a := w) (by repeat first | exact yx0 _ | assumption | refine yxa ?_ _ | refine yxd ?_ | refine yxn ?_ _ | refine yxs ?_ (by simp <;> omega) _ | refine yxt ?_ (by assumption)) hb); have HQ1 := Lib.hid ((Blk.new2 w _ _ 25 #[.slice none 0 0]).alloc (.cells #[.int .i64 0] 35) |>.ext hb); have HQ2 := Lib.hid (Blk.ext (Blk.new3 w _ _ _ 35 #[.int .i64 0]) hb); have HS := Lib.hid ((((Blk.new1 w _ 32 #[.slice B cs.length d, .slice D ns.length e]).alloc _).alloc _).ext hb); clear hb; obtain ⟨q1, qf1, ql1⟩ := HQ1.out.c1; obtain ⟨q2, qf2, ql2⟩ := HQ2.out.c1; obtain ⟨m0, m1, _, _, ml⟩ := HS.out.c2))
    have g1 := (((HQ1.out.set_ 0 (.slice none 0 0)).far (p := ⟨w.heap.size + 1 + 1 + 1, 0, none⟩) (by simp) (.int .i64 z)).alloc (.cells #[.slice none 0 0, .slice none 0 0] 69)).cell 0 _ rfl
    have g2 := (((HQ2.out.far (p := ⟨w.heap.size + 1 + 1, 0, none⟩) (by simp) (.slice none 0 0)).set_ 0 (.int .i64 z)).alloc (.cells #[.slice none 0 0, .slice none 0 0] 69)).cell 0 _ rfl
    refine bodyPost_ret (v := .tuple #[.slice none 0 0, .int .i64 z]) (by simp [results, Tryz.results12, go_sem, g1, g2]) rfl ?_
    exact ⟨none, 0, rfl, RI.nil, by have hx9 := HX1.out; have hx8 := HX1.out.size; exact (by repeat first | exact yx0 _ | assumption | refine yxa ?_ _ | refine yxd ?_ | refine yxn ?_ _ | refine yxs ?_ (by simp <;> omega) _ | refine yxt ?_ (by assumption))⟩
  case pos =>
  have hV : stV f s = s.val := by unfold stV; rw [if_pos h1]
  have hM : mostV f s = most s.ns.length (stB s.cs s.zs) s.ns.length := by unfold mostV; rw [if_neg (by simpa using h1)]
  have hR : Right s := Right.of h1
  rw [hV, h1] at cST
  rw [hM, h1]
  have hN := hR.few
  have hmn : ∀ k : Nat, (comb s.ns.length (k + 1) s.ns.length).find? (stB s.cs s.zs) = none → most s.ns.length (stB s.cs s.zs) (k + 1) = most s.ns.length (stB s.cs s.zs) k := fun k h => by rw [most, h]
  have hms : ∀ (k : Nat) l, (comb s.ns.length (k + 1) s.ns.length).find? (stB s.cs s.zs) = some l → most s.ns.length (stB s.cs s.zs) (k + 1) = l := fun k l h => by rw [most, h]
  have hm0 : most s.ns.length (stB s.cs s.zs) 0 = [] := rfl
  have CSS : Hid (∀ X cx zs W, SR W s → RI W X zs.length zs → Rise 0 s.ns.length zs → Calls Tryz.prog 30 #[s.val, .slice X zs.length cx] W (Ret (.bool (standsB s zs)) W)) := Lib.hid fun X cx zs W h1 h2 h3 => pStands_any s X cx zs W h1 h2 hR h3
  have HSB : Hid (∀ zs, standsB s zs = stB s.cs s.zs zs) := Lib.hid fun _ => rfl
  have HCM : Hid (∀ k zs, zs ∈ comb s.ns.length k s.ns.length → Rise 0 s.ns.length zs) := Lib.hid fun k zs h => by
    have h9 := ((comb_mem s.ns.length k s.ns.length zs).1 h).2
    rwa [Int.sub_self] at h9
  have HSF : Hid (∀ cb sb fb count base W, Cpt W cb sb fb s count → count ≤ 100 → base ≤ cb ∧ base ≤ sb ∧ base ≤ fb → Finds Tryz.prog 47 #[.pointer (some ⟨fb, 0, none⟩)] (comb s.ns.length count s.ns.length) base W) := Lib.hid fun cb sb fb count base W h1 h2 h3 => sets_finds s cb sb fb count base W h1 h2 hN h3
  have CSE := Lib.hid (fun count W => sets_any s count W)
  clear hf hs hM hV h1 hR
  have HMS := Lib.hid hms; have HMN := Lib.hid hmn; have HM0 := Lib.hid hm0
  clear hms hmn hm0
  generalize hPd : stB s.cs s.zs = Pd at *
  clear hPd
  generalize hmo : most s.ns.length Pd = mo at *
  clear hmo
  obtain ⟨name, body, ss⟩ := f
  obtain ⟨B, d, cs, D, e, ns⟩ := s
  have hsv : ST.val ⟨B, d, cs, D, e, ns⟩ = .agg #[.slice B cs.length d, .slice D ns.length e] := rfl
  simp only [FT.val, hsv] at *
  have CST := Lib.hid cST; clear cST hsv
  refine (callsIn_wide (n := 3)).1 ?_
  refine callsIn_of_wp_marks Tryz.func12 rfl trivial ?_ rfl
  simp only [Tryz.ntmps12, List.size_toArray, List.length_cons, List.length_nil, Nat.reduceAdd, Nat.reduceSub, Array.replicate_succ, Array.replicate_zero, List.push_toArray, List.append_toArray, List.nil_append, List.cons_append]
  refine wpIn_wide.2 ?_
  go_upto_region 4 with (first | (go_at_call 28; refine Calls.mono (CST.out _ (HF.out.ext (by repeat first | exact yx0 _ | assumption | refine yxa ?_ _ | refine yxd ?_ | refine yxn ?_ _ | refine yxs ?_ (by simp <;> omega) _ | refine yxt ?_ (by assumption))) (HSR.out.ext (by repeat first | exact yx0 _ | assumption | refine yxa ?_ _ | refine yxd ?_ | refine yxn ?_ _ | refine yxs ?_ (by simp <;> omega) _ | refine yxt ?_ (by assumption)))) ?_; rintro e9 w1 ⟨rfl, hb⟩; have HX1 := Lib.hid (Ext.trans (a := w) (by repeat first | exact yx0 _ | assumption | refine yxa ?_ _ | refine yxd ?_ | refine yxn ?_ _ | refine yxs ?_ (by simp <;> omega) _ | refine yxt ?_ (by assumption)) hb); have HQ1 := Lib.hid ((Blk.new2 w _ _ 25 #[.slice none 0 0]).alloc (.cells #[.int .i64 0] 35) |>.ext hb); have HQ2 := Lib.hid (Blk.ext (Blk.new3 w _ _ _ 35 #[.int .i64 0]) hb); have HS := Lib.hid ((((Blk.new1 w _ 32 #[.slice B cs.length d, .slice D ns.length e]).alloc _).alloc _).ext hb); clear hb; obtain ⟨q1, qf1, ql1⟩ := HQ1.out.c1; obtain ⟨q2, qf2, ql2⟩ := HQ2.out.c1; obtain ⟨m0, m1, _, _, ml⟩ := HS.out.c2))
  obtain ⟨wq, hwq⟩ : ∃ wq, w1.alloc (.cells #[.slice B cs.length d, .slice D ns.length e] 69) = wq := ⟨_, rfl⟩
  have HM0' : Hid (MoS w wq w1.heap.size #[.slice B cs.length d, .slice D ns.length e]) := Lib.hid (by rw [← hwq]; exact ⟨HX1.out.trans (by repeat first | exact yx0 _ | assumption | refine yxa ?_ _ | refine yxd ?_ | refine yxn ?_ _ | refine yxs ?_ (by simp <;> omega) _ | refine yxt ?_ (by assumption)), HQ1.out.ext (by repeat first | exact yx0 _ | assumption | refine yxa ?_ _ | refine yxd ?_ | refine yxn ?_ _ | refine yxs ?_ (by simp <;> omega) _ | refine yxt ?_ (by assumption)), HQ2.out.ext (by repeat first | exact yx0 _ | assumption | refine yxa ?_ _ | refine yxd ?_ | refine yxn ?_ _ | refine yxs ?_ (by simp <;> omega) _ | refine yxt ?_ (by assumption)), Blk.new w1 _ _⟩)
  have HSQ : Hid (Blk wq (w.heap.size + 1) 32 #[.slice B cs.length d, .slice D ns.length e]) := Lib.hid (by rw [← hwq]; exact HS.out.ext (by repeat first | exact yx0 _ | assumption | refine yxa ?_ _ | refine yxd ?_ | refine yxn ?_ _ | refine yxs ?_ (by simp <;> omega) _ | refine yxt ?_ (by assumption)))
  have HG1 : Hid (w.heap.size + 1 + 1 + 1 < w1.heap.size) := Lib.hid ql2
  (try rw [hwq])
  clear hwq q1 qf1 ql1 q2 qf2 ql2 m0 m1 ml HQ1 HQ2 HX1 HS
  obtain ⟨m0, m1, _, _, ml⟩ := HSQ.out.c2
  go_upto_block 0 with fail
  go_step
  clear m0 m1 ml
  refine wp_loop_m [false, false, false, false, false, false, false, false, true, true, false, false, false, false, false, false, false, false, false, false, false, false, true, true, true, true, true, true, true, true, true, true, true, true] 8 (fun U Ds wr => ∃ k : Nat, k ≤ ns.length ∧ U 8 = .int .i64 (k : Int) ∧ Hid (Marks w.heap.size Ds wr) ∧ Hid (MoS w wr w1.heap.size #[.slice B cs.length d, .slice D ns.length e]) ∧ Hid (mo ns.length = mo k)) (fun v => (intOf v).toNat) [] rfl ?_ ?_
  · exact ⟨ns.length, Nat.le_refl _, rfl, Lib.hid (Marks.nil _ _), HM0', Lib.hid rfl⟩
  intro U Ds wr hrel
  obtain ⟨k, hk, h8, HMK, HM, HE⟩ := hrel
  clear HM0'
  simp only [over, Nat.reduceAdd, h8]
  rcases Nat.eq_zero_or_pos k with h0 | h0
  · subst h0
    obtain ⟨p1, pf1, pl1⟩ := HM.out.b1.c1; obtain ⟨p2, pf2, pl2⟩ := HM.out.b2.c1
    have i1 : ¬ (0 : Int) < ((0 : Nat) : Int) := by omega
    go_wp2
    have HR9 := Lib.hid (MoR.store (c := 0) (zs := []) HM.out HMK.out (RI.nil (w := wr)) (fun a ha => by cases ha)).1
    simp only [List.length_nil] at HR9
    rw [HE.out, HM0.out]
    refine leaves_marks (n0 := w.heap.size) Ds _ HR9.out.mks fun w' hb' hc' => ?_
    obtain ⟨A9, c9, h9, h8⟩ := HR9.out.out
    have g1 := hc'.cell (h9.cell 0 _ rfl)
    have g2 := hc'.cell (HR9.out.b2.cell 0 _ rfl)
    exact ⟨_, by simp [results, Tryz.results12, go_sem, g1, g2], ⟨A9, c9, rfl, hc'.ri h8, Below.trans (HR9.out.ext : Below w.heap.size w _) hb'⟩⟩
  · obtain ⟨r, rfl⟩ : ∃ r, k = r + 1 := ⟨k - 1, by omega⟩
    obtain ⟨p1, pf1, pl1⟩ := HM.out.b1.c1; obtain ⟨p2, pf2, pl2⟩ := HM.out.b2.c1; obtain ⟨n0, n1, _, _, nl⟩ := HM.out.bk.c2
    have i1 : (0 : Int) < ((r + 1 : Nat) : Int) := by omega
    have CSX := Lib.hid (fun W => CSE.out (r + 1) W)
    obtain ⟨kk, hkk⟩ : ∃ kk, kk = r + 1 := ⟨_, rfl⟩
    rw [← hkk] at CSX i1 ⊢
    have HKK := Lib.hid hkk
    clear hkk
    go_upto_block 2 with (first | (go_at_call 29; refine Calls.mono (CSX.out _) ?_; rintro e9 w3 ⟨rfl, hcp, hb⟩; have HCP := Lib.hid hcp; have HX3 := Lib.hid (Ext.trans (a := wr) (by repeat first | exact yx0 _ | assumption | refine yxa ?_ _ | refine yxd ?_ | refine yxn ?_ _ | refine yxs ?_ (by simp <;> omega) _ | refine yxt ?_ (by assumption)) hb); clear hcp hb))
    go_step
    have HM3 := Lib.hid (HM.out.ext' HX3.out); have HK3 := Lib.hid (HMK.out.ext HX3.out)
    have HLT : Hid (w.heap.size + 1 + 1 < wr.heap.size ∧ w.heap.size + 1 + 1 + 1 < wr.heap.size) := Lib.hid ⟨pl1, pl2⟩
    have HSZ := Lib.hid HX3.out.size
    clear p1 pf1 pl1 p2 pf2 pl2 n0 n1 nl
    refine (wpIn_wide (n := 3)).1 ?_
    refine wp_find (n := 3) (by decide) (gf := 47) (lb := #[.pointer (some ⟨wr.heap.size + 1 + 1, 0, none⟩)]) rfl (enters_of Tryz.func47 (by kernel_rfl) rfl) (Pd := Pd) (HSF.out _ _ _ kk wr.heap.size w3 HCP.out (by have := HKK.out; omega) ⟨by omega, by omega, by omega⟩) HSZ.out (Lb := [w.heap.size + 1 + 1, w.heap.size + 1 + 1 + 1]) (fun k hk => by
        simp only [List.mem_cons, List.not_mem_nil, or_false] at hk
        have := HLT.out; omega) rfl (MoR w Ds) (fun zs X Y h hx => h.ext' hx) (fun zs X k o' h hk ho => h.putObj (by have := HLT.out; have := HSZ.out; omega) (fun D hD => by have := (HK3.out.2 D hD).2.1; omega) ho) ?a1 ?assign ?body ?done ?stop
    case assign =>
      intro l x2 W K hK
      gi_wp2
      exact hK
    case body =>
      rintro l A9 c9 zs W hx hz hri hfar
      have HM4 := Lib.hid (HM3.out.ext' hx)
      have HK4 := Lib.hid (HK3.out.ext hx)
      have CSB := Lib.hid (fun W h1 h2 => CSS.out A9 c9 zs W h1 h2 (HCM.out _ _ hz))
      rw [HSB.out zs] at CSB
      have HRI := Lib.hid hri
      have HXW := Lib.hid (HM4.out.ext)
      have HFA : Hid (∀ a, A9 = some a → a.block ≠ w.heap.size + 1 + 1 ∧ a.block ≠ w.heap.size + 1 + 1 + 1) := Lib.hid fun a ha => by have := hfar a ha; have := HLT.out; omega
      obtain ⟨p1, pf1, pl1⟩ := HM4.out.b1.c1; obtain ⟨p2, pf2, pl2⟩ := HM4.out.b2.c1; obtain ⟨n0, n1, _, _, nl⟩ := HM4.out.bk.c2
      clear hx hz hri hfar
      cases hp : Pd zs with
      | false =>
        rw [hp] at CSB
        have HP := Lib.hid hp
        clear hp
        gi_wp2_with (first | (gi_at_call 30; refine CallsIn.mono (CallsIn.inRound l (callsIn_wide.2 (CSB.out _ (HSR.out.ext (HXW.out.trans (by repeat first | exact yx0 _ | assumption | refine yxa ?_ _ | refine yxd ?_ | refine yxn ?_ _ | refine yxs ?_ (by simp <;> omega) _ | refine yxt ?_ (by assumption)))) (HRI.out.ext (by repeat first | exact yx0 _ | assumption | refine yxa ?_ _ | refine yxd ?_ | refine yxn ?_ _ | refine yxs ?_ (by simp <;> omega) _ | refine yxt ?_ (by assumption)))))) ?_; rintro e9 w4 ⟨rfl, hb⟩; have HB4 := Lib.hid (Ext.trans (a := W) (by repeat first | exact yx0 _ | assumption | refine yxa ?_ _ | refine yxd ?_ | refine yxn ?_ _ | refine yxs ?_ (by simp <;> omega) _ | refine yxt ?_ (by assumption)) hb); clear hb))
        exact ⟨HP.out, HB4.out.trans (by repeat first | exact yx0 _ | assumption | refine yxa ?_ _ | refine yxd ?_ | refine yxn ?_ _ | refine yxs ?_ (by simp <;> omega) _ | refine yxt ?_ (by assumption))⟩
      | true =>
        rw [hp] at CSB
        have HP := Lib.hid hp
        clear hp
        gi_wp2_with (first | (gi_at_call 30; refine CallsIn.mono (CallsIn.inRound l (callsIn_wide.2 (CSB.out _ (HSR.out.ext (HXW.out.trans (by repeat first | exact yx0 _ | assumption | refine yxa ?_ _ | refine yxd ?_ | refine yxn ?_ _ | refine yxs ?_ (by simp <;> omega) _ | refine yxt ?_ (by assumption)))) (HRI.out.ext (by repeat first | exact yx0 _ | assumption | refine yxa ?_ _ | refine yxd ?_ | refine yxn ?_ _ | refine yxs ?_ (by simp <;> omega) _ | refine yxt ?_ (by assumption)))))) ?_; rintro e9 w4 ⟨rfl, hb⟩; have HB4 := Lib.hid (Ext.trans (a := W) (by repeat first | exact yx0 _ | assumption | refine yxa ?_ _ | refine yxd ?_ | refine yxn ?_ _ | refine yxs ?_ (by simp <;> omega) _ | refine yxt ?_ (by assumption)) hb); have HM5 := Lib.hid (HM4.out.ext' HB4.out); clear hb p1 pf1 pl1 p2 pf2 pl2 n0 n1 nl; obtain ⟨p1, pf1, pl1⟩ := HM5.out.b1.c1; obtain ⟨p2, pf2, pl2⟩ := HM5.out.b2.c1))
        obtain ⟨hs1, hs2⟩ := MoR.store (c := c9) HM5.out (HK4.out.ext HB4.out) (HRI.out.ext HB4.out) HFA.out
        exact ⟨HP.out, (But.of_ext HB4.out _).trans hs2, hs1⟩
    case done =>
      intro W hf hx hD
      have HX5 := Lib.hid hx; have HD5 := Lib.hid hD; have HF5 : Hid (mo (r + 1) = mo r) := Lib.hid (by rw [HKK.out] at hf; exact HMN.out r hf)
      have hw1 : IntKind.i64.wrap ((kk : Int) - 1) = (r : Int) := by have := HKK.out; rw [IntWalk.i64_in _ (by omega)]; omega
      clear hx hD hf
      dsimp only
      go_wp2
      refine ⟨w3.heap.size :: Ds, rfl, rfl, ⟨r, by omega, rfl, Lib.hid (Marks.cons (HK3.out.ext HX5.out) HD5.out (by have := HM3.out.ext.size; exact this) (fun E hE => (HK3.out.2 E hE).2.1)), Lib.hid (HM3.out.ext' HX5.out), Lib.hid (HE.out.trans HF5.out)⟩, ?_⟩
      have := HKK.out
      simp [intOf] <;> omega
    case stop =>
      intro zs W hf hR hD
      have HR5 := Lib.hid hR; have HD5 := Lib.hid hD; have HF5 : Hid (mo (r + 1) = zs) := Lib.hid (by rw [HKK.out] at hf; exact HMS.out r zs hf)
      clear hR hD hf
      refine wpIn_wide.2 ?_
      go_wp2
      rw [HE.out, HF5.out]
      have HR9 : Hid (MoR w (w3.heap.size :: Ds) zs W) := Lib.hid ⟨HR5.out.ext, Marks.cons HR5.out.mks HD5.out (by have := HM3.out.ext.size; exact this) (fun E hE => (HK3.out.2 E hE).2.1), HR5.out.out, HR5.out.b2⟩
      refine leaves_marks (n0 := w.heap.size) (w3.heap.size :: Ds) _ HR9.out.mks fun w' hb' hc' => ?_
      obtain ⟨A9, c9, h9, h8⟩ := HR9.out.out
      have g1 := hc'.cell (h9.cell 0 _ rfl)
      have g2 := hc'.cell (HR9.out.b2.cell 0 _ rfl)
      exact ⟨_, by simp [results, Tryz.results12, go_sem, g1, g2], ⟨A9, c9, rfl, hc'.ri h8, Below.trans (HR9.out.ext : Below w.heap.size w _) hb'⟩⟩
end Go.Proofs.YtfbdklminljecaaGreatDoor
