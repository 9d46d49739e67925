/-
  Walk: the levels of a word by one pattern.
-/
import Derived.Test.YtccdnieoaejgdaaGreatDoorT2AM
import Derived.Test.YtccdnieoaejgdaaGreatDoorT2AI
import Derived.Test.YtccdnieoaejgdaaGreatDoorT2AN
set_option linter.unusedVariables false
set_option linter.unusedSimpArgs false
set_option linter.unusedSectionVars false
namespace Go.Proofs.YtccdnieoaejgdaaGreatDoor
open Go.RowKit Go.Shelf
attribute [local go_sem] Oper.semAt_some wide_fn wide_depth

theorem Blk.own {α : Type} (B k : Nat) (t : TypeId) (cs : Array Value) : OwnFrom B (fun (_ : α) W => Blk W k t cs) := fun _ X Y row hb hg hr =>
  (hg.block k hb.lt fun e => by
    obtain ⟨_, o, ho, hc⟩ := hr k e.symm
    rw [show X.heap[k]? = _ from hb] at ho
    cases ho; cases hc).trans hb
theorem Ext.own {α : Type} (w0 : World) (B : Nat) (hB : w0.heap.size ≤ B) : OwnFrom B (fun (_ : α) W => Ext w0 W) := fun _ X Y row hx hg hr =>
  hx.grown hg fun k e => by have := (hr k e).1; omega
theorem size_own {α : Type} (m B : Nat) : OwnFrom B (fun (_ : α) W => m ≤ W.heap.size) := fun _ X Y row h hg _ => Nat.le_trans h hg.size
theorem Ext.keeps {W W' : World} (h : Ext W W') (B : Nat) : KeepsFrom B W W' := ⟨h.size, fun _ _ _ hk _ => (h.block (Array.getElem?_eq_some_iff.1 hk).1).trans hk⟩
/-- The level of place i by some fits. -/
def lvL (q : Pat) {l : List UInt8} (pre : List (HitT q l)) (i : Nat) : Int := pre.foldl (fun a t => if t.1 ≤ i ∧ i ≤ t.1 + q.lt.length then max a (q.lv.getD (i - t.1) 0) else a) 0
theorem lvL_snoc (q : Pat) {l : List UInt8} (pre : List (HitT q l)) (t : HitT q l) (i : Nat) : lvL q (pre ++ [t]) i = if t.1 ≤ i ∧ i ≤ t.1 + q.lt.length then max (lvL q pre i) (q.lv.getD (i - t.1) 0) else lvL q pre i := by
  unfold lvL; rw [List.foldl_append]; rfl
theorem lvL_hits (q : Pat) (l : List UInt8) (i : Nat) : ∀ k, lvL q (hitsTo q l k) i = lvAt q l k i
  | 0 => rfl
  | k + 1 => by
    rw [hitsTo, lvAt]
    by_cases h : hit q l k = true
    · rw [dif_pos h, lvL_snoc, lvL_hits q l i k]
      by_cases h2 : k ≤ i ∧ i ≤ k + q.lt.length
      · rw [if_pos h2, if_pos ⟨h, h2⟩]
      · rw [if_neg h2, if_neg (fun h3 => h2 h3.2)]
    · rw [dif_neg h, if_neg (fun h3 => h h3.1), lvL_hits q l i k]
/-- The levels of all places, j levels of a further fit at t laid in. -/
def outJ (q : Pat) {l : List UInt8} (pre : List (HitT q l)) (n t j : Nat) : List Int := (List.range (n + 1)).map fun i => if t ≤ i ∧ i < t + j then max (lvL q pre i) (q.lv.getD (i - t) 0) else lvL q pre i
def outL (q : Pat) {l : List UInt8} (pre : List (HitT q l)) (n : Nat) : List Int := (List.range (n + 1)).map fun i => lvL q pre i
theorem outJ_zero (q : Pat) {l : List UInt8} (pre : List (HitT q l)) (n t : Nat) : outJ q pre n t 0 = outL q pre n := by
  unfold outJ outL
  apply List.map_congr_left
  intro i _
  rw [if_neg (by omega)]
theorem outJ_len (q : Pat) {l : List UInt8} (pre : List (HitT q l)) (n t j : Nat) : (outJ q pre n t j).length = n + 1 := by unfold outJ; simp
theorem outL_len (q : Pat) {l : List UInt8} (pre : List (HitT q l)) (n : Nat) : (outL q pre n).length = n + 1 := by unfold outL; simp
theorem outJ_at (q : Pat) {l : List UInt8} (pre : List (HitT q l)) (n t j : Nat) (h : t + j ≤ n) : (outJ q pre n t j).getD (t + j) 0 = lvL q pre (t + j) := by
  unfold outJ
  rw [List.getD_eq_getElem?_getD, List.getElem?_map, List.getElem?_range (by omega)]
  simp only [Option.map_some, Option.getD_some]
  rw [if_neg (by omega)]
theorem outJ_next (q : Pat) {l : List UInt8} (pre : List (HitT q l)) (n t j : Nat) : outJ q pre n t (j + 1) = (outJ q pre n t j).set (t + j) (max (lvL q pre (t + j)) (q.lv.getD j 0)) := by
  apply List.ext_getElem?
  intro i
  by_cases hi : i < n + 1
  · rw [List.getElem?_set]
    by_cases h1 : t + j = i
    · subst h1
      rw [if_pos rfl, if_pos (c := t + j < _) (by rw [outJ_len]; exact hi)]
      unfold outJ
      rw [List.getElem?_map, List.getElem?_range hi]
      simp only [Option.map_some]
      rw [if_pos (by omega), Nat.add_sub_cancel_left]
    · rw [if_neg h1]
      unfold outJ
      rw [List.getElem?_map, List.getElem?_map, List.getElem?_range hi]
      simp only [Option.map_some]
      by_cases h2 : t ≤ i ∧ i < t + j
      · rw [if_pos (by omega), if_pos h2]
      · rw [if_neg (by omega), if_neg h2]
  · rw [List.getElem?_eq_none (by rw [outJ_len]; omega), List.getElem?_eq_none (by rw [List.length_set, outJ_len]; omega)]
theorem outJ_end (q : Pat) {l : List UInt8} (pre : List (HitT q l)) (t : HitT q l) (n : Nat) : outJ q pre n t.1 (q.lt.length + 1) = outL q (pre ++ [t]) n := by
  unfold outJ outL
  apply List.map_congr_left
  intro i _
  rw [lvL_snoc]
  by_cases h : t.1 ≤ i ∧ i ≤ t.1 + q.lt.length
  · rw [if_pos (by omega), if_pos h]
  · rw [if_neg (by omega), if_neg h]
theorem lvL_bd0 {q : Pat} (hq : q.Ok) {l : List UInt8} (i : Nat) : ∀ (pre : List (HitT q l)) (a : Int), 0 ≤ a ∧ a ≤ 9 → 0 ≤ pre.foldl (fun a t => if t.1 ≤ i ∧ i ≤ t.1 + q.lt.length then max a (q.lv.getD (i - t.1) 0) else a) a ∧ pre.foldl (fun a t => if t.1 ≤ i ∧ i ≤ t.1 + q.lt.length then max a (q.lv.getD (i - t.1) 0) else a) a ≤ 9
  | [], a, h => h
  | t :: pre, a, h => by
    rw [List.foldl_cons]
    refine lvL_bd0 hq i pre _ ?_
    have h2 := lv_bd hq (i - t.1)
    split
    · omega
    · exact h
theorem lvL_bd {q : Pat} (hq : q.Ok) {l : List UInt8} (pre : List (HitT q l)) (i : Nat) : 0 ≤ lvL q pre i ∧ lvL q pre i ≤ 9 := lvL_bd0 hq i pre 0 (by decide)
/-- The levels of a word by one pattern, as a list. -/
def lvListIn (q : Pat) (l : List UInt8) : List Int := (List.range (l.length + 1)).map fun i => lvIn q l i
theorem outL_all (q : Pat) (l : List UInt8) : outL q (hitsTo q l (l.length + 1)) l.length = lvListIn q l := by
  unfold outL lvListIn lvIn
  apply List.map_congr_left
  intro i _
  rw [lvL_hits]
theorem made_zeros' (n : Nat) : madeCells (Value.int .i64 0).cells n = Array.replicate n (Value.int .i64 0) := by
  rw [← Array.toList_inj, Array.toList_replicate, List.eq_replicate_iff]
  refine ⟨by simp [size_madeCells], fun b hb => ?_⟩
  unfold madeCells at hb
  simp only [Array.toList_map, List.mem_map] at hb
  obtain ⟨i, _, rfl⟩ := hb
  have h4 : (Value.int .i64 0).cells.size = 1 := rfl
  rw [h4, Nat.mod_one]; rfl
theorem run_make_ints (n : Nat) (hn : n ≤ 1000000) (W : World) : (Instr.makeSlice 27 (.int .i64 (n : Int)) (.int .i64 (n : Int))).run Tryz.prog W = .ok (.slice (some ⟨W.heap.size, 0, none⟩) n n) (W.alloc (.cells (Array.replicate n (.int .i64 0)) 3)) := by
  obtain ⟨i0, hi, hz0, hz1, hz2⟩ := info_parts intInfo
  have := run_makeSlice (P := Tryz.prog) (w := W) 27 3 i0 (.int .i64 0) Tryz.underlying27 hi hz0 .i64 .i64 (n : Int) (n : Int) (by omega) (Int.le_refl _) (by rw [hz1]; omega) (by rw [hz2]; omega) (by omega)
  rw [this, hz1, Int.toNat_natCast, Nat.mul_one, made_zeros']
theorem own_is {w : World} {base n size : Nat} {e : TypeId} {u : Value} {xs : List Value} (h : w.ownsRow base e size u n xs) {g : Nat} (hg : u.ownBlock = some g) : ∃ cur, Blk w g e cur := by
  rcases h.2 with ⟨rfl, _⟩ | ⟨g', cap, cur, rfl, _, hh, _⟩
  · cases hg
  · cases hg; exact ⟨cur, hh⟩
theorem CellsOn.own {w w' : World} {base : Nat} {v : Value} {zs : List Int} (h : CellsOn w w') (ho : Own w base v zs) : Own w' base v zs := by
  refine ⟨ho.1, ?_⟩
  rcases ho.2 with h1 | ⟨g, cap, cur, hv, hg, hh, r⟩
  · exact .inl h1
  · exact .inr ⟨g, cap, cur, hv, hg, h.same g cur _ _ hh, r⟩
/-- What holds while the levels of a word are gathered. -/
structure InS (w : World) (p b2 g5 go : Nat) (l : List Int) (W : World) : Prop where
  ext : Ext w W
  bb : Blk W b2 133 #[.pointer (some ⟨p, 0, none⟩)]
  b5 : Blk W g5 27 #[.slice (some ⟨go, 0, none⟩) l.length l.length]
  own : Own W w.heap.size (.slice (some ⟨go, 0, none⟩) l.length l.length) l
section
variable {w W W' : World} {p b2 g5 go : Nat} {l : List Int}
theorem InS.ext' (h : InS w p b2 g5 go l W) (hx : Ext W W') : InS w p b2 g5 go l W' := ⟨h.ext.trans hx, h.bb.ext hx, h.b5.ext hx, h.own.ext hx⟩
theorem InS.at_ (h : InS w p b2 g5 go l W) {k : Nat} (hk : k < l.length) : W.cell? ⟨go, k, none⟩ = some (.int .i64 (l.getD k 0)) ∧ W.frozen? ⟨go, k, none⟩ = false ∧ go < W.heap.size := by
  refine ⟨?_, World.ownsRow.frozenAt h.own k, (World.ownsRow.lt h.own go rfl).2⟩
  rw [World.ownsRow.cellAt h.own k (by omega), List.getElem?_map, List.getElem?_eq_getElem hk, List.getD_eq_getElem?_getD, List.getElem?_eq_getElem hk]; rfl
theorem InS.set_ (h : InS w p b2 g5 go l W) (k : Nat) (z : Int) : InS w p b2 g5 go (l.set k z) (W.setCell ⟨go, k, none⟩ (.int .i64 z)) := by
  have hg := (World.ownsRow.lt h.own go rfl).1
  have n1 : b2 ≠ go := fun e => Lib.ownBlock_ne h.own h.bb (by decide) (by rw [e]; rfl)
  have n2 : g5 ≠ go := fun e => Lib.ownBlock_ne h.own h.b5 (by decide) (by rw [e]; rfl)
  refine ⟨h.ext.setCell (p := ⟨go, k, none⟩) hg _, h.bb.far n1 _, ?_, ?_⟩
  · rw [List.length_set]; exact h.b5.far n2 _
  · unfold Own
    rw [List.length_set, List.map_set]
    exact (World.ownsRow.stored h.own k (.int .i64 z)).1
theorem InS.own_ {α : Type} (B : Nat) (hB : w.heap.size ≤ B) (f : α → List Int) : OwnFrom B (fun a W => InS w p b2 g5 go (f a) W) := fun a X Y row h hg hr =>
  ⟨Ext.own w B hB a X Y row h.ext hg hr, Blk.own B _ _ _ a X Y row h.bb hg hr, Blk.own B _ _ _ a X Y row h.b5 hg hr, World.ownsRow.kept h.own hg (.inr fun e => by
    obtain ⟨_, o, ho, hc⟩ := hr go (by rw [← e]; rfl)
    obtain ⟨c1, b1⟩ := own_is h.own (g := go) rfl
    rw [show X.heap[go]? = _ from b1] at ho
    cases ho; cases hc)⟩
theorem KpX.of_setCell {w0 W : World} {bk bf : Nat} {q : Addr} (v : Value) (h0 : w0.heap.size ≤ q.block) (h1 : bk ≠ q.block) (h2 : bf ≠ q.block) : KpX w0 bk bf W (W.setCell q v) :=
  ⟨fun e => e.setCell h0 v, Below.heap_setCell W q v bk h1, Below.heap_setCell W q v bf h2⟩
end
set_option maxRecDepth 100000 in
set_option maxHeartbeats 8000000 in
theorem in_any (q : Pat) (p : Nat) (s : ByteArray) (w : World) (hq : q.Ok) (hs : s.size ≤ 100) (A : Option Addr) (c : Nat) (hb : Blk w p 188 #[.string (strL q.lt), .slice A q.lv.length c, .bool q.fs, .bool q.en]) (hl : RI w A q.lv.length q.lv) :
    Calls Tryz.prog 83 #[.pointer (some ⟨p, 0, none⟩), .string s] w (RetS (lvListIn q s.data.toList) w) := by
  have CF := Lib.hid fun W => found_any p s W
  have HB := Lib.hid hb
  have HL := Lib.hid hl
  have hs1 : (s.size : Int) ≤ 100 := by omega
  have hs2 : s.size ≤ 9223372036854775807 := by omega
  have u1 : IntKind.i64.wrap ((s.size : Int) + 1) = (s.size : Int) + 1 := IntWalk.i64_in _ (by omega)
  have hmk := run_make_ints (s.size + 1) (by omega)
  simp only [Int.natCast_add, Int.natCast_one] at hmk
  clear hb hl
  refine (callsIn_wide (n := 3)).1 ?_
  refine callsIn_of_wp_marks Tryz.func83 rfl trivial ?_ rfl
  simp only [Tryz.ntmps83, List.size_toArray, List.length_cons, List.length_nil, Nat.reduceAdd, Nat.reduceSub, Array.replicate_succ, Array.replicate_zero, List.push_toArray, List.append_toArray, List.nil_append, List.cons_append]
  refine wpIn_wide.2 ?_
  go_upto_region 2 with fail
  have HI0 : Hid (InS w p w.heap.size (w.heap.size + 1 + 1) (w.heap.size + 1) (outL q ([] : List (HitT q s.data.toList)) s.size) (((w.alloc (.cells #[.pointer (some ⟨p, 0, none⟩)] 133)).alloc (.cells (Array.replicate (s.size + 1) (.int .i64 0)) 3)).alloc (.cells #[.slice (some ⟨w.heap.size + 1, 0, none⟩) (s.size + 1) (s.size + 1)] 27))) := Lib.hid (by
    have hz : outL q ([] : List (HitT q s.data.toList)) s.size = List.replicate (s.size + 1) 0 := by
      unfold outL lvL
      rw [List.eq_replicate_iff]
      exact ⟨by simp, by simp⟩
    refine ⟨(((Ext.refl w).alloc _).alloc _).alloc _, ((Blk.new w _ _).alloc _).alloc _, ?_, ?_⟩
    · rw [outL_len]; exact Blk.new2 w _ _ _ _
    · have h := World.ownsRow_lit (e := 3) (size := 1) (base := w.heap.size) (w.alloc (.cells #[.pointer (some ⟨p, 0, none⟩)] 133)) (Array.replicate (s.size + 1) (.int .i64 0)) (s.size + 1) (by simp) (by unfold maxLen; omega) (by simp)
      have h2 := World.ownsRow.alloc h (.cells #[.slice (some ⟨w.heap.size + 1, 0, none⟩) (s.size + 1) (s.size + 1)] 27)
      unfold Own
      rw [outL_len, hz]
      simpa using h2)
  clear hmk
  generalize (((w.alloc (.cells #[.pointer (some ⟨p, 0, none⟩)] 133)).alloc (.cells (Array.replicate (s.size + 1) (.int .i64 0)) 3)).alloc (.cells #[.slice (some ⟨w.heap.size + 1, 0, none⟩) (s.size + 1) (s.size + 1)] 27)) = w1 at *
  obtain ⟨b2, hb2⟩ : ∃ b2, b2 = w.heap.size := ⟨_, rfl⟩
  obtain ⟨go, hgo⟩ : ∃ go, go = w.heap.size + 1 := ⟨_, rfl⟩
  obtain ⟨g5, hg5⟩ : ∃ g5, g5 = w.heap.size + 1 + 1 := ⟨_, rfl⟩
  rw [← hg5, ← hgo] at HI0 ⊢
  have HI : Hid (InS w p b2 g5 go (outL q ([] : List (HitT q s.data.toList)) s.size) w1) := Lib.hid (by rw [hb2]; exact HI0.out)
  rw [← hb2]
  clear HI0 hb2 hgo hg5
  obtain ⟨k0, kf, kl⟩ := HI.out.bb.c1
  go_upto_block 2 with (first | (go_at_call 119; refine Calls.mono (CF.out _) ?_; rintro e w3 ⟨rfl, rfl⟩))
  obtain ⟨wq, hwq⟩ : ∃ wq, (w1.alloc (.cells #[.pointer (some ⟨p, 0, none⟩)] 133)).alloc (.cells #[.string s] 9) = wq := ⟨_, rfl⟩
  have hxq : Ext w1 wq := by rw [← hwq]; exact ((Ext.refl w1).alloc _).alloc _
  have hK : Blk wq w1.heap.size 133 #[.pointer (some ⟨p, 0, none⟩)] := by rw [← hwq]; exact (Blk.new w1 _ _).alloc _
  have hF : Blk wq (w1.heap.size + 1) 9 #[.string s] := by rw [← hwq]; exact Blk.new1 w1 _ _ _
  rw [hwq]
  clear hwq k0 kf kl
  have HIQ := Lib.hid (HI.out.ext' hxq)
  have HFS : Hid (FdS w p q (.slice A q.lv.length c) s w1.heap.size (w1.heap.size + 1) wq) := Lib.hid ⟨HIQ.out.ext, HB.out, hK, hF⟩
  have hq0 := HIQ.out.ext.size
  have hq1 := hK.lt
  have hq2 := hF.lt
  have hw1 := HI.out.ext.size
  have HQ := Lib.hid hq
  clear hxq hK hF hq
  refine (wpIn_wide (n := 3)).1 ?_
  refine wpIn_rangeFunc_ownG_of_H (gf := 146) (lb := #[.pointer (some ⟨w1.heap.size, 0, none⟩), .pointer (some ⟨w1.heap.size + 1, 0, none⟩)]) rfl (by decide) rfl trivial (enters_of Tryz.func146 (by kernel_rfl) rfl)
    (found1_stops q p (.slice A q.lv.length c) s w1.heap.size (w1.heap.size + 1) 2 w wq (by decide) HQ.out (by omega) HFS.out) (fun h k => KpX.trans h k) (fun W l o o' hl _ _ _ => KpX.of_put (w := wq) hq0 hq1 hq2 W l o' hl) (Below.refl _ _) (fun _ => rfl)
    (fun pre W => InS w p b2 g5 go (outL q pre s.size) W ∧ wq.heap.size ≤ W.heap.size) (fun _ _ _ => False)
    (OwnFrom.and (InS.own_ _ hq0 _) (size_own _ _)) (fun _ _ _ _ _ h _ _ => h.elim) ⟨HIQ.out, Nat.le_refl _⟩ ?a1 ?assign ?body ?done ?stop (KpX.refl _ _ _)
  case assign =>
    intro l x2 W K hK
    gi_wp2
    exact hK
  case body =>
    rintro l pre ⟨t, ht⟩ wo ⟨hI, hoq⟩ hlen
    have HOQ := Lib.hid hoq
    clear hoq
    have htl : t + q.lt.length ≤ s.size := by
      have h := ht
      unfold hit at h
      simp only [Bool.and_eq_true, decide_eq_true_eq] at h
      have := h.1.1.1
      simpa using this
    have HTL := Lib.hid htl
    have HEND := Lib.hid (outJ_end q pre ⟨t, ht⟩ s.size)
    have HZ := Lib.hid (outJ_zero q pre s.size t)
    have hI0 := hI
    rw [← HZ.out] at hI0
    have HI9 := Lib.hid hI0
    obtain ⟨k0, kf, kl⟩ := hI.bb.c1
    have hbp := HB.out.ext hI.ext
    have p1 := hbp.cell 1 _ rfl
    have pl := hbp.lt
    have HLV := Lib.hid HQ.out.len
    have hlv : (q.lv.length : Int) ≤ 17 := by have h1 := HQ.out.len; have h2 := HQ.out.hi; omega
    have HKF := Lib.hid ((Ext.refl wo).keeps wq.heap.size)
    have HKP := Lib.hid (KpX.refl w w1.heap.size (w1.heap.size + 1) wo)
    clear htl hI hI0 hbp hlen
    repeat gi_step
    gi_loopw [22, 7, 8] (fun v22 _ _ wr => ∃ j : Nat, j ≤ q.lv.length ∧ v22 = .int .i64 (j : Int) ∧ Hid (InS w p b2 g5 go (outJ q pre s.size t j) wr) ∧ Hid (KeepsFrom wq.heap.size wo wr) ∧ Hid (KpX w w1.heap.size (w1.heap.size + 1) wo wr)) (fun v22 _ _ _ => q.lv.length - (intOf v22).toNat)
    case atStart => exact ⟨0, Nat.zero_le _, rfl, HI9, HKF, HKP⟩
    case round =>
      obtain ⟨j, hj, rfl, HIJ, HKF', HKP'⟩ := hrel
      clear k0 kf kl p1 pl HI9
      by_cases hlt : j < q.lv.length
      case neg =>
        obtain rfl : j = q.lv.length := by omega
        have ij : ¬ (q.lv.length : Int) < (q.lv.length : Int) := by omega
        clear hlt
        gi_wp2
        refine ⟨HKF'.out, HKP'.out, ?_, by have h1 := HKF'.out.size; have h2 := HOQ.out; omega⟩
        have h := HIJ.out
        rw [HLV.out, HEND.out] at h
        exact h
      case pos =>
        have ij : (j : Int) < (q.lv.length : Int) := by omega
        obtain ⟨lb, lo, hA, hlb, hlc⟩ := HL.out.2.2 (by omega)
        subst hA
        have c0 : wr.cell? ⟨lb, lo + j, none⟩ = some (.int .i64 (q.lv.getD j 0)) := (HIJ.out.ext.cell (p := ⟨lb, lo + j, none⟩) hlb).trans (hlc j hlt)
        have hlbr : lb < wr.heap.size := Nat.lt_of_lt_of_le hlb HIJ.out.ext.size
        have htj : t + j ≤ s.size := by have h1 := HTL.out; have h2 := HLV.out; omega
        have HTJ := Lib.hid htj
        have HNX := Lib.hid (outJ_next q pre s.size t j)
        have HAT := Lib.hid (outJ_at q pre s.size t j htj)
        have hll := outJ_len q pre s.size t j
        obtain ⟨x0, xf, xl⟩ := HIJ.out.at_ (k := t + j) (by rw [hll]; omega)
        rw [HAT.out] at x0
        obtain ⟨y0, yf, yl⟩ := HIJ.out.b5.c1
        rw [hll] at y0
        have HBD := Lib.hid (lvL_bd HQ.out pre (t + j))
        have HLB := Lib.hid (lv_bd HQ.out j)
        generalize lvL q pre (t + j) = x at *
        generalize q.lv.getD j 0 = v at *
        have u3 : IntKind.i64.wrap ((t : Int) + (j : Int)) = ((t + j : Nat) : Int) := by rw [← Int.natCast_add]; exact IntWalk.i64_in _ (by omega)
        have i5 : ((t + j : Nat) : Int) < (s.size : Int) + 1 := by omega
        obtain ⟨k, hk⟩ : ∃ k, k = t + j := ⟨_, rfl⟩
        rw [← hk] at x0 xf u3 i5
        have HK := Lib.hid hk
        have mixed : Tryz.prog.follows .mixedOrders = true := by kernel_rfl
        clear hlc hll htj hlt hk
        repeat gi_step
        have HN2 : Hid (InS w p b2 g5 go (outJ q pre s.size t (j + 1)) (wr.setCell ⟨go, k, none⟩ (.int .i64 (max x v))).drew) := Lib.hid (by
          rw [HNX.out, ← HK.out]; exact (HIJ.out.set_ k (max x v)).ext' (Ext.refl _).drew)
        have HKF2 : Hid (KeepsFrom wq.heap.size wr (wr.setCell ⟨go, k, none⟩ (.int .i64 (max x v))).drew) := Lib.hid (((KeepsOthers.setCell _ _ _).from _).trans ((Ext.refl _).drew.keeps _))
        have HKP2 : Hid (KpX w w1.heap.size (w1.heap.size + 1) wr (wr.setCell ⟨go, k, none⟩ (.int .i64 (max x v))).drew) := Lib.hid (by
          have hg1 := (World.ownsRow.lt HI.out.own go rfl)
          exact KpX.trans (KpX.of_setCell (q := ⟨go, k, none⟩) _ hg1.1 (by have := hg1.2; simp only; omega) (by have := hg1.2; simp only; omega)) ((Ext.refl _).drew.kpx (by have h1 := HKF'.out.size; have h2 := HOQ.out; simp [World.setCell]; omega) (by have h1 := HKF'.out.size; have h2 := HOQ.out; simp [World.setCell]; omega)))
        refine wpIn_region_u (fun W => InS w p b2 g5 go (outJ q pre s.size t (j + 1)) W ∧ KeepsFrom wq.heap.size wr W ∧ KpX w w1.heap.size (w1.heap.size + 1) wr W) [?_, ?_, ?_, ?_, ?_, ?_, ?_, ?_, ?_, ?_, ?_, ?_, ?_, ?_] (by kernel_rfl) (by kernel_rfl) (by kernel_rfl) (by kernel_rfl) rfl (by decide) ?_ ?_
        rotate_left 14
        · iterate 13
            refine StepsU.cons ?_ ?_
            · first | (refine StepZ.off rfl ?_; refine ⟨?_, rfl⟩; rfl) | (refine StepZ.go rfl ?_; go_simp; refine ⟨?_, rfl⟩; rfl)
            simp only [Act.put, List.setIfInBounds_toArray, List.set_cons_zero, List.set_cons_succ]
          refine StepsU.last ?_
          refine StepZ.go rfl ?_
          go_simp
          refine ⟨rfl, ?_, HN2.out, HKF2.out, HKP2.out⟩; rfl
        intro W hW
        simp only [putAll, Act.put, List.setIfInBounds_toArray, List.set_cons_zero, List.set_cons_succ]
        obtain ⟨h1, h2, h3⟩ := hW
        have HW1 := Lib.hid h1; have HW2 := Lib.hid (HKF'.out.trans h2); have HW3 := Lib.hid (KpX.trans HKP'.out h3)
        clear h1 h2 h3
        gi_wp2
        go_roundw
        case rel => exact ⟨j + 1, by omega, by go_num, HW1, HW2, HW3⟩
        case measure => simp [intOf]; omega
  case done =>
    rintro D xs W hD rfl ⟨hI2, _⟩ hK
    have HI3 := Lib.hid hI2
    obtain ⟨y0, yf, yl⟩ := HI3.out.b5.c1
    have HM3 := Lib.hid ((Marks.nil w.heap.size W).cons hK (Nat.le_trans hq0 hD) (fun E hE => by cases hE))
    have HE := Lib.hid (outL_all q s.data.toList)
    have hsl : s.data.toList.length = s.size := by simp
    rw [hsl] at HE
    rw [HE.out] at HI3 y0
    have hll : (lvListIn q s.data.toList).length = s.size + 1 := by unfold lvListIn; simp
    rw [hll] at y0
    have HLL := Lib.hid hll
    clear hI2 hK hD hsl hll
    dsimp only
    go_wp2
    have hx9 : Ext w W := HI3.out.ext
    refine leaves_marks (n0 := w.heap.size) [D] _ HM3.out fun w' hb' hc' => ⟨.slice (some ⟨go, 0, none⟩) (s.size + 1) (s.size + 1), by simp [results, Tryz.results83], ?_⟩
    have ho := hc'.own HI3.out.own
    refine ⟨some ⟨go, 0, none⟩, s.size + 1, by rw [HLL.out], ?_, Below.trans hx9 hb'⟩
    rw [HLL.out] at ho
    exact SL.of_own (by rw [HLL.out]; exact ho) (by rw [HLL.out]; omega)
  case stop => exact fun _ _ _ _ _ _ h _ => h.elim
end Go.Proofs.YtccdnieoaejgdaaGreatDoor
