/-
  Walk: chapter 5: the longest pages.
-/
import Derived.Test.YtpkmapngdkkglaaGreatDoorPgCB
import Derived.Test.YtpkmapngdkkglaaGreatDoorPgFind
import Derived.Test.YtpkmapngdkkglaaGreatDoorGreedLaw
import Derived.Test.YtpkmapngdkkglaaGreatDoorGJ
namespace Go.Proofs.YtpkmapngdkkglaaGreatDoor
open Go.RowKit
attribute [local go_sem] Oper.semAt_some wide_fn wide_depth stateAt known List.map_cons List.map_nil Option.getD_some
attribute [local go_sem ↓] Go.wp_at_zero Go.wp_at_succ

/-- A slice of ints and an error. -/
def RetIE (zs : List Int) (z : Int) (w : World) (e : Ending) (w' : World) : Prop := ∃ A c, e = .returned (.tuple #[.slice A zs.length c, .int .i64 z]) ∧ RI w' A zs.length zs ∧ Ext w w'
theorem RetIE.none_ {z : Int} {w w' : World} (h : Ext w w') : RetIE [] z w (.returned (.tuple #[.slice none 0 0, .int .i64 z])) w' := ⟨none, 0, rfl, RI.nil, h⟩
theorem RetIE.mk2 {A : Option Addr} {c : Nat} {zs : List Int} {z : Int} {w w' : World} (hr : RI w' A zs.length zs) (h : Ext w w') : RetIE zs z w (.returned (.tuple #[.slice A zs.length c, .int .i64 z])) w' := ⟨A, c, rfl, hr, h⟩
/-- The breaks of longest pages, or the error. -/
def grdP (g : GT) (r : QT) : List Int × Int := if bookErr g r ≠ 0 then ([], bookErr g r) else grdR (costR g r) g.items.length
/-- The last of some pages (0: none). -/
def lastT {cs : CS} {n a : Nat} (l : List (PgT cs n a)) : Nat := (l.getLast?.map (fun t => t.1)).getD 0
theorem lastT_nil {cs : CS} {n a : Nat} : lastT ([] : List (PgT cs n a)) = 0 := rfl
theorem lastT_snoc {cs : CS} {n a : Nat} (l : List (PgT cs n a)) (t : PgT cs n a) : lastT (l ++ [t]) = t.1 := by unfold lastT; simp
theorem lastT_tos (cs : CS) (n a : Nat) : ∀ m, a + m ≤ n → lastT (tosTo cs n a m) = lonG cs a m
  | 0, _ => rfl
  | m + 1, h => by
    unfold tosTo lonG
    by_cases hc : (cs a (a + m + 1)).2 = 0
    · rw [dif_pos ⟨by omega, hc⟩, if_pos hc, lastT_snoc]
    · rw [dif_neg (fun q => hc q.2), if_neg hc]; exact lastT_tos cs n a m (by omega)
/-- What the loop of Greedy keeps: the book, the breaks found, the marks. -/
structure GrS (w : World) (cs : Array Value) (bk : Nat) (v : Value) (zs : List Int) (Ds : List Nat) (W : World) : Prop where
  bw : BkW w cs bk W
  own : Own W (bk + 1) v zs
  ms : Marks w.heap.size Ds W
theorem grown_cell2 {a b : World} {row : Option Nat} {g o : Nat} {u : Value} (h : a.grownBy b row) (hl : g < a.heap.size) (hn : row ≠ some g) (hc : a.cell? ⟨g, o, none⟩ = some u) : b.cell? ⟨g, o, none⟩ = some u := by
  have := h.block g hl (fun e => hn e.symm)
  unfold World.cell? at hc ⊢
  simp only [this]
  exact hc
theorem Blk.ownF {α : Type} (B k : Nat) (t : TypeId) (cs : α → Array Value) : OwnFrom B (fun s W => Blk W k t (cs s)) := fun _ X Y row hb hg hr =>
  (hg.block k hb.lt (fun e => by obtain ⟨_, o, ho, hc⟩ := hr k e.symm; unfold Blk at hb; rw [hb] at ho; cases ho; cases hc)).trans hb
section
variable {w W W' : World} {cs : Array Value} {bk : Nat} {v : Value} {zs : List Int} {Ds : List Nat}
theorem GrS.next (h : GrS w cs bk v zs Ds W) (hx : Ext W W') : GrS w cs bk v zs Ds W' := ⟨h.bw.next hx, h.own.ext hx, h.ms.ext hx⟩
theorem GrS.from (B : Nat) {α : Type} (hB : ∀ D, D ∈ Ds → D < B) (hw : w.heap.size ≤ B) : OwnFrom B (fun (_ : α) W => GrS w cs bk v zs Ds W) := fun s X Y row h hg hr => by
  have keep : ∀ {k : Nat} {t : TypeId} {cs : Array Value}, Blk X k t cs → Y.heap[k]? = X.heap[k]? := fun {k t cs} hb =>
    hg.block k hb.lt (fun e => by obtain ⟨_, o, ho, hc⟩ := hr k e.symm; unfold Blk at hb; rw [hb] at ho; cases ho; cases hc)
  refine ⟨⟨h.bw.ext.grown hg (fun k e => by have := (hr k e).1; omega), (keep h.bw.bb).trans h.bw.bb⟩, h.own.block fun k hk => ?_, Marks.own (α := α) w.heap.size B Ds hB s X Y row h.ms hg hr⟩
  obtain ⟨ds, hd⟩ := h.own.blk hk
  exact keep hd
/-- A store into a cell of this round's own. -/
theorem GrS.put (h : GrS w cs bk v zs Ds W) {q : Nat} {z : Value} {c9 : Array Value} (hq : Blk W q 3 c9) (h1 : q ≠ bk) (h2 : ∀ k, v.ownBlock = some k → k ≠ q) (h3 : w.heap.size ≤ q) : GrS w cs bk v zs Ds (W.setCell ⟨q, 0, none⟩ z) := by
  refine ⟨⟨h.bw.ext.setCell (p := ⟨q, 0, none⟩) h3 _, h.bw.bb.far (p := ⟨q, 0, none⟩) (fun e => h1 e.symm) _⟩, h.own.block fun k hk => Below.heap_setCell W ⟨q, 0, none⟩ _ k (h2 k hk), h.ms.1, fun D hD => ?_⟩
  obtain ⟨q1, q2, q3⟩ := h.ms.2 D hD
  refine ⟨q1, by simpa using q2, (Below.heap_setCell W ⟨q, 0, none⟩ _ D (fun e => ?_)).trans q3⟩
  subst e
  unfold Blk at hq
  try simp only at q3
  rw [q3] at hq; cases hq
theorem GrS.push (h : GrS w cs bk v zs Ds W) (hx : Ext W W') {W2 : World} {v' : Value} {z : Int} (hg : W'.grownBy W2 v.ownBlock) (ho : Own W2 (bk + 1) v' (zs ++ [z])) (hb : w.heap.size ≤ bk) : GrS w cs bk v' (zs ++ [z]) Ds W2 := by
  have h1 := h.next hx
  have hn : ∀ k, v.ownBlock = some k → bk + 1 ≤ k := fun k hk => h.own.base_le k hk
  refine ⟨⟨h1.bw.ext.grown hg fun k hk => by have := hn k hk; omega, (hg.block _ h1.bw.bb.lt fun e => by have := hn _ e.symm; omega).trans h1.bw.bb⟩, ho, h1.ms.1, fun D hD => ?_⟩
  obtain ⟨q1, q2, q3⟩ := h1.ms.2 D hD
  refine ⟨q1, by have := hg.size; omega, (hg.block D q2 fun e => ?_).trans q3⟩
  obtain ⟨ds, hd⟩ := h1.own.blk e.symm
  unfold Blk at hd
  rw [q3] at hd; cases hd
theorem GrS.cons (h : GrS w cs bk v zs Ds W) {D : Nat} (hD : W.heap[D]? = some (.deferred (some []))) (h0 : w.heap.size ≤ D) (hn : ∀ E, E ∈ Ds → E < D) : GrS w cs bk v zs (D :: Ds) W := ⟨h.bw, h.own, h.ms.cons hD h0 hn⟩
end
set_option maxRecDepth 100000 in
set_option maxHeartbeats 8000000 in
theorem greedy_any (g : GT) (p : GA) (r : QT) (w : World) (hg : GR w p g) :
    Calls Tryz.prog 44 #[g.val p, r.val] w (RetIE (grdP g r).1 (grdP g r).2 w) := by
  have cO := fun W h => open_any g p r W h
  have HV0 : Hid (grdP g r = if bookErr g r ≠ 0 then ([], bookErr g r) else grdR (costR g r) g.items.length) := Lib.hid rfl
  generalize grdP g r = V at *
  have HG := Lib.hid hg
  by_cases hck : (chkG g).2 = 0
  case neg =>
    have hbe : bookErr g r = (chkG g).2 := by unfold bookErr; rw [if_pos hck]
    have HV : Hid (V = ([], (chkG g).2)) := Lib.hid (by rw [HV0.out, if_pos (by rw [hbe]; exact hck), hbe])
    have HOV : Hid (openV g p r = .tuple #[.agg #[.slice none 0 0, .slice none 0 0, .int .i64 0, .int .i64 0, .int .i64 0, .int .i64 0], .int .i64 (chkG g).2]) := Lib.hid (by unfold openV; rw [if_pos hck])
    rw [HOV.out] at cO
    have e0 : ((chkG g).2 != 0) = true := by simpa using hck
    generalize (chkG g).2 = z at *
    unfold GT.val QT.val at *
    have CO := Lib.hid cO; clear cO hck hbe hg HOV HV0
    go_enter Tryz.func44, Tryz.ntmps44
    go_wp2_with (first | (go_at_call 51; refine Calls.mono (CO.out _ ?_) ?_; (exact HG.out.ext (by repeat first | exact xe0 _ | assumption | refine xea ?_ _ | refine xed ?_ | refine xes ?_ (by simp <;> omega) _ | refine xet ?_ (by assumption))); rintro e w1 ⟨rfl, hb⟩; have HX1 := Lib.hid (Ext.trans (a := w) (by repeat first | exact xe0 _ | assumption | refine xea ?_ _ | refine xed ?_ | refine xes ?_ (by simp <;> omega) _ | refine xet ?_ (by assumption)) hb); clear hb))
    go_ret2
    rw [HV.out]
    exact RetIE.none_ (HX1.out.trans (by repeat first | exact xe0 _ | assumption | refine xea ?_ _ | refine xed ?_ | refine xes ?_ (by simp <;> omega) _ | refine xet ?_ (by assumption)))
  case pos =>
  have hR := chkG_zero hck
  have HOV : Hid (openV g p r = .tuple #[bkVal g p r, .int .i64 (chkQ r)]) := Lib.hid (by unfold openV; rw [if_neg (by simpa using hck)])
  rw [HOV.out] at cO
  have hbe : bookErr g r = chkQ r := by unfold bookErr; rw [if_neg (by simpa using hck)]
  rw [hbe] at HV0
  clear hbe hck
  by_cases hq : chkQ r = 0
  case neg =>
    have HV : Hid (V = ([], chkQ r)) := Lib.hid (by rw [HV0.out, if_pos hq])
    have e0 : (chkQ r != 0) = true := by simpa using hq
    generalize chkQ r = z at *
    unfold bkVal at cO
    unfold GT.val QT.val at *
    have CO := Lib.hid cO; clear cO hq hg HOV HV0 hR
    go_enter Tryz.func44, Tryz.ntmps44
    go_wp2_with (first | (go_at_call 51; refine Calls.mono (CO.out _ ?_) ?_; (exact HG.out.ext (by repeat first | exact xe0 _ | assumption | refine xea ?_ _ | refine xed ?_ | refine xes ?_ (by simp <;> omega) _ | refine xet ?_ (by assumption))); rintro e w1 ⟨rfl, hb⟩; have HX1 := Lib.hid (Ext.trans (a := w) (by repeat first | exact xe0 _ | assumption | refine xea ?_ _ | refine xed ?_ | refine xes ?_ (by simp <;> omega) _ | refine xet ?_ (by assumption)) hb); clear hb))
    go_ret2
    rw [HV.out]
    exact RetIE.none_ (HX1.out.trans (by repeat first | exact xe0 _ | assumption | refine xea ?_ _ | refine xed ?_ | refine xes ?_ (by simp <;> omega) _ | refine xet ?_ (by assumption)))
  case pos =>
  rw [hq] at cO
  have hn := hR.many
  have cE := fun W => bookEnd_any g p r W
  have HR1 := HV0.out
  rw [if_neg (by simpa using hq)] at HR1
  have HR : Hid (V = if g.items.length = 0 then ([], 10) else grdF (costR g r) g.items.length (g.items.length + 1) 0) := Lib.hid (HR1.trans rfl)
  have HRG := Lib.hid hR; have HQ := Lib.hid hq
  by_cases hn0 : g.items.length = 0
  case pos =>
    have HV : Hid (V = ([], 10)) := Lib.hid (by rw [HR.out, if_pos hn0])
    have e1 : ((g.items.length : Int) == 0) = true := by rw [beq_iff_eq]; omega
    unfold bkVal at cO cE
    unfold GT.val QT.val at *
    have CO := Lib.hid cO; have CE := Lib.hid cE; clear cO cE hq hg hR hn0 HR HR1 HV0 HOV
    go_enter Tryz.func44, Tryz.ntmps44
    go_wp2_with (first | (go_at_call 51; refine Calls.mono (CO.out _ ?_) ?_; (exact HG.out.ext (by repeat first | exact xe0 _ | assumption | refine xea ?_ _ | refine xed ?_ | refine xes ?_ (by simp <;> omega) _ | refine xet ?_ (by assumption))); rintro e w1 ⟨rfl, hb⟩; have HX1 := Lib.hid (Ext.trans (a := w) (by repeat first | exact xe0 _ | assumption | refine xea ?_ _ | refine xed ?_ | refine xes ?_ (by simp <;> omega) _ | refine xet ?_ (by assumption)) hb); clear hb) | (go_at_call 73; refine Calls.mono (CE.out _) ?_; rintro e w2 ⟨rfl, hb⟩; have HK0 : Hid (BkW w #[.slice p.A g.items.length p.c, .slice p.B g.notes.length p.d, .int .i64 r.height, .int .i64 r.gap, .int .i64 r.widow, .int .i64 r.orphan] w1.heap.size w2) := Lib.hid ⟨HX1.out.trans (Ext.trans (by repeat first | exact xe0 _ | assumption | refine xea ?_ _ | refine xed ?_ | refine xes ?_ (by simp <;> omega) _ | refine xet ?_ (by assumption)) hb), (Blk.new w1 _ _).ext hb⟩; clear hb; obtain ⟨⟨k0, k1, k2, k3, k4, k5⟩, kl⟩ := HK0.out.at))
    go_ret2
    rw [HV.out]
    exact RetIE.none_ (HK0.out.ext.trans (by repeat first | exact xe0 _ | assumption | refine xea ?_ _ | refine xed ?_ | refine xes ?_ (by simp <;> omega) _ | refine xet ?_ (by assumption)))
  case neg =>
  have e1 : ((g.items.length : Int) == 0) = false := by rw [beq_eq_false_iff_ne]; omega
  have HVS : Hid (V = grdF (costR g r) g.items.length (g.items.length + 1 - 0) 0) := Lib.hid (by rw [HR.out, if_neg hn0]; rfl)
  unfold bkVal at cO cE
  unfold GT.val QT.val at *
  have CO := Lib.hid cO; have CE := Lib.hid cE; clear cO cE hq hg hR hn0 HR HR1 HV0 HOV
  refine (callsIn_wide (n := 3)).1 ?_
  refine callsIn_of_wp_marks Tryz.func44 rfl trivial ?_ rfl
  simp only [Tryz.ntmps44, List.size_toArray, List.length_cons, List.length_nil, Nat.reduceAdd, Nat.reduceSub, Array.replicate_succ, Array.replicate_zero, List.push_toArray, List.append_toArray, List.nil_append, List.cons_append]
  refine wpIn_wide.2 ?_
  go_upto_block 1 with (first | (go_at_call 51; refine Calls.mono (CO.out _ ?_) ?_; (exact HG.out.ext (by repeat first | exact xe0 _ | assumption | refine xea ?_ _ | refine xed ?_ | refine xes ?_ (by simp <;> omega) _ | refine xet ?_ (by assumption))); rintro e w1 ⟨rfl, hb⟩; have HX1 := Lib.hid (Ext.trans (a := w) (by repeat first | exact xe0 _ | assumption | refine xea ?_ _ | refine xed ?_ | refine xes ?_ (by simp <;> omega) _ | refine xet ?_ (by assumption)) hb); clear hb) | (go_at_call 73; refine Calls.mono (CE.out _) ?_; rintro e w2 ⟨rfl, hb⟩; have HK0 : Hid (BkW w #[.slice p.A g.items.length p.c, .slice p.B g.notes.length p.d, .int .i64 r.height, .int .i64 r.gap, .int .i64 r.widow, .int .i64 r.orphan] w1.heap.size w2) := Lib.hid ⟨HX1.out.trans (Ext.trans (by repeat first | exact xe0 _ | assumption | refine xea ?_ _ | refine xed ?_ | refine xes ?_ (by simp <;> omega) _ | refine xet ?_ (by assumption)) hb), (Blk.new w1 _ _).ext hb⟩; clear hb; obtain ⟨⟨k0, k1, k2, k3, k4, k5⟩, kl⟩ := HK0.out.at))
  go_step
  have HS0 : Hid (GrS w #[.slice p.A g.items.length p.c, .slice p.B g.notes.length p.d, .int .i64 r.height, .int .i64 r.gap, .int .i64 r.widow, .int .i64 r.orphan] w1.heap.size (.slice none 0 0) (gL (costR g r) g.items.length 0) [] w2) := Lib.hid ⟨HK0.out, Own.nil _ _, Marks.nil _ _⟩
  have HW1 : Hid (w.heap.size ≤ w1.heap.size) := Lib.hid HX1.out.size
  clear k0 k1 k2 k3 k4 k5 kl HK0
  refine wp_loop_m [false, false, false, false, false, false, false, false, true, true, true, true, false, false, false, false, false, false, false, false, false, false, false, false, false, false, true, true, true, true, true, true, true, true, true, true, true, true, true, true, true, true, true, false] 9 (fun U Ds wr => ∃ k : Nat, U 9 = .int .i64 ((gAt (costR g r) g.items.length k : Nat) : Int) ∧ Hid (GOk (costR g r) g.items.length k) ∧ Hid (V = grdF (costR g r) g.items.length (g.items.length + 1 - k) k) ∧ Hid (GrS w #[.slice p.A g.items.length p.c, .slice p.B g.notes.length p.d, .int .i64 r.height, .int .i64 r.gap, .int .i64 r.widow, .int .i64 r.orphan] w1.heap.size (U 8) (gL (costR g r) g.items.length k) Ds wr)) (fun v => g.items.length - (intOf v).toNat) [] rfl ?_ ?_
  · exact ⟨0, rfl, Lib.hid .zero, HVS, HS0⟩
  intro U Ds wr hrel
  obtain ⟨k, h9, HK, HV, HS⟩ := hrel
  generalize h8 : U 8 = v8 at *
  simp only [over, Nat.reduceAdd, h8, h9]
  clear h8 h9 HS0 HVS
  have hgo := HK.out.le
  have hgf := HK.out.few
  have HLL : Hid ((gL (costR g r) g.items.length k).length = k) := Lib.hid (gL_len k)
  have HF : Hid (g.items.length + 1 - k = (g.items.length - k) + 1) := Lib.hid (by omega)
  have hkn : k ≤ g.items.length := by omega
  obtain ⟨⟨k0, k1, k2, k3, k4, k5⟩, kl⟩ := HS.out.bw.at
  have HGA : Hid (gAt (costR g r) g.items.length (k + 1) = lonG (costR g r) (gAt (costR g r) g.items.length k) (g.items.length - gAt (costR g r) g.items.length k)) := Lib.hid rfl
  have HGL : Hid (gL (costR g r) g.items.length (k + 1) = gL (costR g r) g.items.length k ++ [(gAt (costR g r) g.items.length (k + 1) : Int)]) := Lib.hid rfl
  by_cases hend : gAt (costR g r) g.items.length k = g.items.length
  case pos =>
    have HV2 : Hid (V = (gL (costR g r) g.items.length k, 0)) := Lib.hid (by rw [HV.out, HF.out, grdF_end hend])
    rw [hend]
    have i2 : ¬ (g.items.length : Int) < (g.items.length : Int) := by omega
    generalize gL (costR g r) g.items.length k = L at *
    have hll : L.length ≤ 1000 := by have := HLL.out; omega
    obtain ⟨A, c, rfl, hc, hri⟩ := HS.out.own.form (by omega)
    have HRI := Lib.hid hri
    clear hc hri hll hend HLL HGA HGL HV HK hgo hgf
    go_wp2_with (first | (go_at_call 73; refine Calls.mono (CE.out _) ?_; rintro e w3 ⟨rfl, hb⟩; have HX3 := Lib.hid (Ext.trans (a := wr) (by repeat first | exact xe0 _ | assumption | refine xea ?_ _ | refine xed ?_ | refine xes ?_ (by simp <;> omega) _ | refine xet ?_ (by assumption)) hb); have HS3 := Lib.hid (HS.out.next HX3.out); clear hb k0 k1 k2 k3 k4 k5 kl; obtain ⟨⟨k0, k1, k2, k3, k4, k5⟩, kl⟩ := HS3.out.bw.at))
    refine leaves_marks (n0 := w.heap.size) Ds _ (HS3.out.ms.ext (by repeat first | exact xe0 _ | assumption | refine xea ?_ _ | refine xed ?_ | refine xes ?_ (by simp <;> omega) _ | refine xet ?_ (by assumption))) fun w' hb' hc' => ⟨.tuple #[.slice A L.length c, .int .i64 0], by simp [results, Tryz.results44], ?_⟩
    rw [HV2.out]
    exact RetIE.mk2 (hc'.ri (HRI.out.ext (HX3.out.trans (by repeat first | exact xe0 _ | assumption | refine xea ?_ _ | refine xed ?_ | refine xes ?_ (by simp <;> omega) _ | refine xet ?_ (by assumption))))) (Below.trans (HS3.out.bw.ext.trans (by repeat first | exact xe0 _ | assumption | refine xea ?_ _ | refine xed ?_ | refine xes ?_ (by simp <;> omega) _ | refine xet ?_ (by assumption))) hb')
  case neg =>
    have HNX : Hid (gAt (costR g r) g.items.length (k + 1) = 0 → V = ([], 12)) := Lib.hid fun h => by rw [HV.out, HF.out, grdF_none hend h]
    have HNY : Hid (gAt (costR g r) g.items.length (k + 1) ≠ 0 → V = grdF (costR g r) g.items.length (g.items.length + 1 - (k + 1)) (k + 1) ∧ GOk (costR g r) g.items.length (k + 1)) := Lib.hid fun h => by
      refine ⟨?_, HK.out.next h⟩
      rw [HV.out, HF.out, grdF_next hend h, show g.items.length + 1 - (k + 1) = g.items.length - k by omega]
    have hal : gAt (costR g r) g.items.length k < g.items.length := by omega
    have HNL := Lib.hid (fun h => gAt_next (cs := costR g r) (n := g.items.length) (k := k) hgo h)
    generalize gL (costR g r) g.items.length k = L at *
    generalize ha1 : gAt (costR g r) g.items.length (k + 1) = a1 at *
    have HEQ := Lib.hid ha1; clear ha1
    generalize gAt (costR g r) g.items.length k = a at *
    have hai : (a : Int) < (g.items.length : Int) := by omega
    have CP := Lib.hid (fun W => pages_any g p r (a : Int) W)
    unfold bkVal at CP
    clear HV HK HF hend
    go_upto_block 3 with (first | (go_at_call 73; refine Calls.mono (CE.out _) ?_; rintro e w3 ⟨rfl, hb⟩; have HX3 := Lib.hid (Ext.trans (a := wr) (by repeat first | exact xe0 _ | assumption | refine xea ?_ _ | refine xed ?_ | refine xes ?_ (by simp <;> omega) _ | refine xet ?_ (by assumption)) hb); have HS3 := Lib.hid (HS.out.next HX3.out); clear hb k0 k1 k2 k3 k4 k5 kl; obtain ⟨⟨k0, k1, k2, k3, k4, k5⟩, kl⟩ := HS3.out.bw.at) | (go_at_call 75; refine Calls.mono (CP.out _) ?_; rintro e w4 ⟨rfl, rfl⟩))
    go_step
    obtain ⟨wq, hwq⟩ : ∃ wq, ((w3.alloc (.cells #[.int .i64 0] 3)).alloc (.cells #[.slice p.A g.items.length p.c, .slice p.B g.notes.length p.d, .int .i64 r.height, .int .i64 r.gap, .int .i64 r.widow, .int .i64 r.orphan] 96)).alloc (.cells #[.int .i64 (a : Int)] 3) = wq := ⟨_, rfl⟩
    have hxq : Ext w3 wq := by rw [← hwq]; exact (by repeat first | exact xe0 _ | assumption | refine xea ?_ _ | refine xed ?_ | refine xes ?_ (by simp <;> omega) _ | refine xet ?_ (by assumption))
    have hL : Blk wq w3.heap.size 3 #[.int .i64 0] := by rw [← hwq]; exact ((Blk.new w3 _ _).alloc _).alloc _
    have hK : Blk wq (w3.heap.size + 1) 96 #[.slice p.A g.items.length p.c, .slice p.B g.notes.length p.d, .int .i64 r.height, .int .i64 r.gap, .int .i64 r.widow, .int .i64 r.orphan] := by rw [← hwq]; exact (Blk.new1 w3 _ _ _).alloc _
    have hK2 : Blk wq (w3.heap.size + 1 + 1) 3 #[.int .i64 (a : Int)] := by rw [← hwq]; exact Blk.new2 w3 _ _ _ _
    rw [hwq]
    clear hwq k0 k1 k2 k3 k4 k5 kl
    have HSQ := Lib.hid (HS3.out.next hxq); have HLQ := Lib.hid hL
    have HPS : Hid (PgS w g p r a (w3.heap.size + 1) (w3.heap.size + 1 + 1) wq) := Lib.hid ⟨HSQ.out.bw.ext, hK, hK2⟩
    have hq1 := hK.lt; have hq2 := hK2.lt; have hq0 := HSQ.out.bw.ext.size
    have HMB : Hid (∀ D, D ∈ Ds → D < wq.heap.size) := Lib.hid fun D hD => (HSQ.out.ms.2 D hD).2.1
    have HOB : Hid (∀ k, v8.ownBlock = some k → k < w3.heap.size) := Lib.hid fun k hk => (World.ownsRow.lt HS3.out.own k hk).2
    have HKB : Hid (w1.heap.size < w3.heap.size) := Lib.hid HS3.out.bw.bb.lt
    have HLT : Hid (lastT (tosTo (costR g r) g.items.length a (g.items.length - a)) = a1) := Lib.hid (by rw [lastT_tos _ _ _ _ (by omega), HGA.out])
    clear hxq hL hK hK2
    refine (wpIn_wide (n := 3)).1 ?_
    refine wpIn_rangeFunc_ownG_of_H (gf := 98) (lb := #[.pointer (some ⟨w3.heap.size + 1 + 1, 0, none⟩), .pointer (some ⟨w3.heap.size + 1, 0, none⟩)]) rfl (by decide) rfl trivial (enters_of Tryz.func98 (by kernel_rfl) rfl)
      (pages1_stops g p r a (w3.heap.size + 1) (w3.heap.size + 1 + 1) 2 w wq (by decide) HG.out hal HRG.out HQ.out HPS.out) (fun h k => KpP.trans h k) (fun W l o o' hl _ _ _ => KpP.of_put (w := wq) hq0 hq1 hq2 W l o' hl) (Below.refl _ _) (fun _ => rfl)
      (fun pre W => GrS w #[.slice p.A g.items.length p.c, .slice p.B g.notes.length p.d, .int .i64 r.height, .int .i64 r.gap, .int .i64 r.widow, .int .i64 r.orphan] w1.heap.size v8 L Ds W ∧ (Blk W w3.heap.size 3 #[.int .i64 ((lastT pre : Nat) : Int)] ∧ Blk W (w3.heap.size + 1 + 1) 3 #[.int .i64 (a : Int)])) (fun _ _ _ => False)
      (OwnFrom.and (GrS.from _ HMB.out hq0) (OwnFrom.and (Blk.ownF _ _ _ _) (Blk.own _ _ _ _))) (fun _ _ _ _ _ h _ _ => h.elim) ⟨HSQ.out, HLQ.out, HPS.out.bfr⟩ ?a1 ?assign ?body ?done ?stop (KpP.refl _ _ _)
    case assign =>
      intro l x2 W K hK
      gi_wp2
      exact hK
    case body =>
      rintro l pre ⟨t, ht1, ht2, ht3⟩ wo ⟨hS2, hL2, hF2⟩ hlen
      have hc0 := hL2.cell 0 _ rfl
      have hc1 := hL2.frozen 0
      have hc2 := hL2.lt
      have hkb := HKB.out
      gi_wp2
      refine ⟨(KeepsOthers.setCell _ _ _).from _, KpP.of_setCell (l := ⟨w3.heap.size, 0, none⟩) _ (Nat.le_trans HW1.out (Nat.le_of_lt hkb)) (by simp only; omega) (by simp only; omega), hS2.put hL2 (by omega) (fun k hk => by have := HOB.out k hk; omega) (Nat.le_trans HW1.out (Nat.le_of_lt hkb)), ?_, hF2.far (p := ⟨w3.heap.size, 0, none⟩) (by simp only; omega) _⟩
      rw [lastT_snoc]
      exact hL2.set_ 0 _
    case done =>
      rintro D xs W hD rfl ⟨hS2, hL2, _⟩ hK
      rw [HLT.out] at hL2
      have HS4 := Lib.hid (hS2.cons hK (Nat.le_trans hq0 hD) fun E hE => Nat.lt_of_lt_of_le (HMB.out E hE) hD)
      have HLB := Lib.hid hL2
      have hc0 := hL2.cell 0 _ rfl
      have hc2 := hL2.lt
      clear hS2 hL2 hK hD hq0 hq1 hq2
      dsimp only
      by_cases hz : a1 = 0
      case pos =>
        have HV2 := Lib.hid (HNX.out hz)
        have hc3 : W.cell? ⟨w3.heap.size, 0, none⟩ = some (.int .i64 0) := by rw [hc0, hz]; rfl
        clear hc0 hz HNX HNY HNL HGA HLT HGL
        go_wp2
        refine leaves_marks (n0 := w.heap.size) (D :: Ds) _ (HS4.out.ms.ext (by repeat first | exact xe0 _ | assumption | refine xea ?_ _ | refine xed ?_ | refine xes ?_ (by simp <;> omega) _ | refine xet ?_ (by assumption))) fun w' hb' hc' => ⟨.tuple #[.slice none 0 0, .int .i64 12], by simp [results, Tryz.results44], ?_⟩
        rw [HV2.out]
        exact RetIE.none_ (Below.trans (HS4.out.bw.ext.trans (by repeat first | exact xe0 _ | assumption | refine xea ?_ _ | refine xed ?_ | refine xes ?_ (by simp <;> omega) _ | refine xet ?_ (by assumption))) hb')
      case neg =>
        obtain ⟨y1, y2⟩ := HNY.out hz
        have HY1 := Lib.hid y1; have HY2 := Lib.hid y2
        obtain ⟨z1, z2, _⟩ := HNL.out hz
        have i3 : ((a1 : Int) == 0) = false := by rw [beq_eq_false_iff_ne]; omega
        have HLN : Hid (L.length ≤ 1000) := Lib.hid (by have := HLL.out; omega)
        have HA1 : Hid (a < a1 ∧ a1 ≤ g.items.length) := Lib.hid ⟨z1, z2⟩
        clear HNX HNY HNL hz y1 y2 z1 z2 HGA HLT
        go_wp2_with (first | (at_builtin; refine list_push rfl (.tmp 38) (.tmp 40) rfl (w1.heap.size + 1) _ L rfl (HS4.out.own.ext (by repeat first | exact xe0 _ | assumption | refine xea ?_ _ | refine xed ?_ | refine xes ?_ (by simp <;> omega) _ | refine xet ?_ (by assumption))) W.heap.size (a1 : Int) rfl (by simp) (by have := HLN.out; omega) (by have := HS4.out.bw.bb.lt; simp; omega) ?_; intro v' w' ho hg; have HS5 := Lib.hid (HS4.out.push (by repeat first | exact xe0 _ | assumption | refine xea ?_ _ | refine xed ?_ | refine xes ?_ (by simp <;> omega) _ | refine xet ?_ (by assumption)) hg ho HW1.out); have hc5 := (grown_cell2 hg (show w3.heap.size < _ from by simp; omega) (fun e => absurd (HOB.out _ e) (by omega)) ((Ext.cell (a := W) (by repeat first | exact xe0 _ | assumption | refine xea ?_ _ | refine xed ?_ | refine xes ?_ (by simp <;> omega) _ | refine xet ?_ (by assumption)) (p := ⟨w3.heap.size, 0, none⟩) hc2).trans hc0)); have hc6 : w3.heap.size < w'.heap.size := Nat.lt_of_lt_of_le (show w3.heap.size < _ from by simp; omega) hg.size; clear ho hg hc0))
        refine ⟨D :: Ds, rfl, rfl, ⟨k + 1, by rw [HEQ.out]; rfl, HY2, HY1, Lib.hid ?_⟩, ?_⟩
        · rw [HGL.out]; exact HS5.out
        · have := HA1.out; simp [intOf]; omega
    case stop => exact fun _ _ _ _ _ _ h _ => h.elim
end Go.Proofs.YtpkmapngdkkglaaGreatDoor
