/-
  Walk: rules in memory of their own (the reference's CopyRules).
-/
import Derived.Test.YtccdnieoaejgdaaGreatDoorT2BF
import Derived.Test.YtccdnieoaejgdaaGreatDoorT2AS
import Derived.Test.YtccdnieoaejgdaaGreatDoorT2AQ
set_option linter.unusedVariables false
set_option linter.unusedSimpArgs false
set_option linter.unusedSectionVars false
namespace Go.Proofs.YtccdnieoaejgdaaGreatDoor
open Go.RowKit Go.Lib
attribute [local go_sem] stateAt vu known List.map_cons List.map_nil Option.getD_some

/-- Texts of the call's own. -/
def CpV (w : World) (ss : List ByteArray) (v : Value) (W : World) : Prop := ∃ A c, v = .slice A ss.length c ∧ OwnW W w.heap.size v (bytesOf ss)
def NeW (u v : Value) : Prop := ∀ k, u.ownBlock = some k → v.ownBlock ≠ some k
section
variable {w W W' : World} {ss : List ByteArray} {u v : Value} {hb i : Nat} {cs : Array Value}
theorem OwnW.mono {base base' : Nat} {ws : List (List UInt8)} (h : OwnW W base v ws) (hb : base' ≤ base) : OwnW W base' v ws := by
  refine ⟨h.1, ?_⟩
  rcases h.2 with h1 | ⟨g, cap, cur, h1, h2, h3⟩
  · exact .inl h1
  · exact .inr ⟨g, cap, cur, h1, Nat.le_trans hb h2, h3⟩
theorem CpV.ext (h : CpV w ss v W) (hx : Ext W W') : CpV w ss v W' := let ⟨A, c, h1, h2⟩ := h; ⟨A, c, h1, h2.ext hx⟩
theorem CpV.sto (h : CpV w ss v W) (hbl : Blk W hb 24 cs) : CpV w ss v (W.setCell ⟨hb, i, none⟩ u) := let ⟨A, c, h1, h2⟩ := h; ⟨A, c, h1, h2.keptB (set_grownB W ⟨_, i, none⟩ u) (fun k hk e => by
  obtain ⟨c9, hb9⟩ := h2.is hk
  exact blk_neT hb9 hbl (by decide) (Option.some.inj e).symm)⟩
theorem CpV.get {base : Nat} (h : OwnW W base v (bytesOf ss)) (hz : ss.length ≤ 1000000) : ∃ A c, v = .slice A ss.length c ∧ OwnW W base (.slice A ss.length c) (bytesOf ss) := by
  obtain ⟨A, c, rfl, _⟩ := OwnW.rs h hz
  exact ⟨A, c, rfl, h⟩
theorem CpV.rs {base n : Nat} {A : Option Addr} {c : Nat} (h : OwnW W base (.slice A n c) (bytesOf ss)) (hz : ss.length ≤ 1000000) : RS W A ss.length ss := by
  obtain ⟨A', c', he, hr⟩ := OwnW.rs h hz
  obtain ⟨rfl, _, _⟩ := Value.slice.inj he
  exact hr
theorem CpV.of {base : Nat} {A : Option Addr} {c : Nat} (h : OwnW W base (.slice A ss.length c) (bytesOf ss)) (hb : w.heap.size ≤ base) : CpV w ss (.slice A ss.length c) W := ⟨A, c, rfl, h.mono hb⟩
theorem CpV.ne {w1 : World} {s2 : List ByteArray} (h : OwnW w1 W.heap.size u (bytesOf s2)) (h9 : CpV w ss v W) : NeW u v ∧ NeW v u := by
  obtain ⟨A, c, _, h2⟩ := h9
  constructor
  · intro k hk e
    have q1 := (World.ownsRow.lt h k hk).1
    have q2 := (World.ownsRow.lt h2 k e).2
    omega
  · intro k hk e
    have q1 := (World.ownsRow.lt h k e).1
    have q2 := (World.ownsRow.lt h2 k hk).2
    omega
end
/-- The rules while they are copied: which lists are stored. -/
def crC (r : RU) (a : RuA) (U : Nat → Value) (f0 f1 f2 : Bool) : Array Value := #[if f0 = true then U 2 else .slice a.pa r.pats.length a.pc, if f1 = true then U 5 else .slice a.ea r.excs.length a.ec, if f2 = true then U 8 else .slice a.ba r.bars.length a.bc, .int .i64 r.left, .int .i64 r.right]
structure Cr3 (w : World) (hb : Nat) (r : RU) (a : RuA) (U : Nat → Value) (f0 f1 f2 : Bool) (W : World) : Prop where
  ext : Ext w W
  lo : hb = w.heap.size
  b : Blk W hb 24 (crC r a U f0 f1 f2)
  rb : Blk W (hb + 1) 24 #[.slice none 0 0, .slice none 0 0, .slice none 0 0, .int .i64 0, .int .i64 0]
section
variable {w W W' : World} {hb : Nat} {r : RU} {a : RuA} {U U' : Nat → Value} {f0 f1 f2 : Bool}
theorem Cr3.next (h : Cr3 w hb r a U f0 f1 f2 W) (hx : Ext W W') : Cr3 w hb r a U f0 f1 f2 W' := ⟨h.ext.trans hx, h.lo, h.b.ext hx, h.rb.ext hx⟩
theorem Cr3.turn (h : Cr3 w hb r a U f0 f1 f2 W) (h0 : f0 = true → U 2 = U' 2) (h1 : f1 = true → U 5 = U' 5) (h2 : f2 = true → U 8 = U' 8) : Cr3 w hb r a U' f0 f1 f2 W := by
  refine ⟨h.ext, h.lo, ?_, h.rb⟩
  have hb := h.b
  have : crC r a U f0 f1 f2 = crC r a U' f0 f1 f2 := by
    unfold crC
    cases f0 <;> cases f1 <;> cases f2 <;> simp_all
  rw [← this]; exact hb
theorem Cr3.c0 (h : Cr3 w hb r a U false f1 f2 W) : W.cell? ⟨hb, 0, none⟩ = some (.slice a.pa r.pats.length a.pc) ∧ W.frozen? ⟨hb, 0, none⟩ = false ∧ hb < W.heap.size := ⟨h.b.cell 0 _ rfl, h.b.frozen 0, h.b.lt⟩
theorem Cr3.c1 (h : Cr3 w hb r a U f0 false f2 W) : W.cell? ⟨hb, 1, none⟩ = some (.slice a.ea r.excs.length a.ec) ∧ W.frozen? ⟨hb, 1, none⟩ = false ∧ hb < W.heap.size := ⟨h.b.cell 1 _ rfl, h.b.frozen 1, h.b.lt⟩
theorem Cr3.c2 (h : Cr3 w hb r a U f0 f1 false W) : W.cell? ⟨hb, 2, none⟩ = some (.slice a.ba r.bars.length a.bc) ∧ W.frozen? ⟨hb, 2, none⟩ = false ∧ hb < W.heap.size := ⟨h.b.cell 2 _ rfl, h.b.frozen 2, h.b.lt⟩
theorem Cr3.put (h : Cr3 w hb r a U f0 f1 f2 W) (i : Nat) (v : Value) (C : Array Value) (hC : (crC r a U f0 f1 f2).setIfInBounds i v = C) : Ext w (W.setCell ⟨hb, i, none⟩ v) ∧ Blk (W.setCell ⟨hb, i, none⟩ v) hb 24 C ∧ Blk (W.setCell ⟨hb, i, none⟩ v) (hb + 1) 24 #[.slice none 0 0, .slice none 0 0, .slice none 0 0, .int .i64 0, .int .i64 0] := by
  have hl := h.lo
  exact ⟨h.ext.setCell (p := ⟨hb, i, none⟩) (by simp only; omega) _, hC ▸ h.b.set_ i v, h.rb.far (p := ⟨hb, i, none⟩) (by simp only; omega) _⟩
theorem Cr3.sto0 {v x : Value} (h : Cr3 w hb r a U false f1 f2 W) (he : U 2 = v) : Cr3 w hb r a (upd U 10 x) true f1 f2 (W.setCell ⟨hb, 0, none⟩ v) := by
  obtain ⟨h1, h2, h3⟩ := h.put 0 v (crC r a (upd U 10 x) true f1 f2) (by rw [← he]; rfl)
  exact ⟨h1, h.lo, h2, h3⟩
theorem Cr3.sto1 {v x : Value} (h : Cr3 w hb r a U f0 false f2 W) (he : U 5 = v) : Cr3 w hb r a (upd U 12 x) f0 true f2 (W.setCell ⟨hb, 1, none⟩ v) := by
  obtain ⟨h1, h2, h3⟩ := h.put 1 v (crC r a (upd U 12 x) f0 true f2) (by rw [← he]; rfl)
  exact ⟨h1, h.lo, h2, h3⟩
theorem Cr3.sto2 {v x : Value} (h : Cr3 w hb r a U f0 f1 false W) (he : U 8 = v) : Cr3 w hb r a (upd U 14 x) f0 f1 true (W.setCell ⟨hb, 2, none⟩ v) := by
  obtain ⟨h1, h2, h3⟩ := h.put 2 v (crC r a (upd U 14 x) f0 f1 true) (by rw [← he]; rfl)
  exact ⟨h1, h.lo, h2, h3⟩
end
/-- The call hands back rules of its own. -/
def RetCr (r : RU) (w : World) (e : Ending) (w' : World) : Prop := ∃ a, e = .returned (r.val a) ∧ RuR w' a r ∧ (OwnW w' w.heap.size (.slice a.pa r.pats.length a.pc) (bytesOf r.pats) ∧ OwnW w' w.heap.size (.slice a.ea r.excs.length a.ec) (bytesOf r.excs) ∧ OwnW w' w.heap.size (.slice a.ba r.bars.length a.bc) (bytesOf r.bars)) ∧
  (NeW (.slice a.pa r.pats.length a.pc) (.slice a.ea r.excs.length a.ec) ∧ NeW (.slice a.pa r.pats.length a.pc) (.slice a.ba r.bars.length a.bc) ∧ NeW (.slice a.ea r.excs.length a.ec) (.slice a.ba r.bars.length a.bc)) ∧ Ext w w'
set_option maxRecDepth 100000 in
set_option maxHeartbeats 8000000 in
theorem copyRules_any (r : RU) (a : RuA) (w : World) (h : RuR w a r) (hl : r.pats.length ≤ 100000 ∧ r.excs.length ≤ 100000 ∧ r.bars.length ≤ 100000) : Calls Tryz.prog 16 #[r.val a] w (RetCr r w) := by
  have C1 := Lib.hid fun W (hx : Ext w W) => copyTexts_any a.pa a.pc r.pats W (h.pats.ext hx) hl.1
  have C2 := Lib.hid fun W (hx : Ext w W) => copyTexts_any a.ea a.ec r.excs W (h.excs.ext hx) hl.2.1
  have C3 := Lib.hid fun W (hx : Ext w W) => copyTexts_any a.ba a.bc r.bars W (h.bars.ext hx) hl.2.2
  have HL1 : Hid (r.pats.length ≤ 1000000) := Lib.hid (by omega)
  have HL2 : Hid (r.excs.length ≤ 1000000) := Lib.hid (by omega)
  have HL3 : Hid (r.bars.length ≤ 1000000) := Lib.hid (by omega)
  have HLR := Lib.hid (And.intro h.left h.right)
  clear h hl
  have hval : r.val a = .agg #[.slice a.pa r.pats.length a.pc, .slice a.ea r.excs.length a.ec, .slice a.ba r.bars.length a.bc, .int .i64 r.left, .int .i64 r.right] := rfl
  rw [hval]
  clear hval
  go_enter Tryz.func16, Tryz.ntmps16
  go_upto_region 1 with fail
  have HCR : Hid (∀ U, Cr3 w w.heap.size r a U false false false ((w.alloc (.cells #[.slice a.pa r.pats.length a.pc, .slice a.ea r.excs.length a.ec, .slice a.ba r.bars.length a.bc, .int .i64 r.left, .int .i64 r.right] 24)).alloc (.cells #[.slice none 0 0, .slice none 0 0, .slice none 0 0, .int .i64 0, .int .i64 0] 24)).drew) := Lib.hid fun U => Cr3.next ⟨(by repeat (first | exact Ext.refl _ | assumption | refine Ext.alloc ?_ _ | refine Ext.drew ?_ | refine Ext.drewN ?_ _ | (refine Ext.setCell ?_ (by simp <;> omega) _) | refine Ext.trans ?_ (by assumption))), rfl, (Blk.new w _ _).alloc _, Blk.new1 w _ _ _⟩ (Ext.refl _).drew
  generalize (w.alloc (.cells #[.slice a.pa r.pats.length a.pc, .slice a.ea r.excs.length a.ec, .slice a.ba r.bars.length a.bc, .int .i64 r.left, .int .i64 r.right] 24)).alloc (.cells #[.slice none 0 0, .slice none 0 0, .slice none 0 0, .int .i64 0, .int .i64 0] 24) = w0 at *
  obtain ⟨hb, hhb⟩ : ∃ hb, hb = w.heap.size := ⟨_, rfl⟩
  rw [← hhb] at HCR ⊢
  clear hhb
  refine wp_region_sv [10, 12, 14] [some (.pointer (some ⟨hb, 0, none⟩)), some (.slice a.pa r.pats.length a.pc), none, some (.pointer (some ⟨hb, 1, none⟩)), some (.slice a.ea r.excs.length a.ec), none, some (.pointer (some ⟨hb, 2, none⟩)), some (.slice a.ba r.bars.length a.bc), none, some (.pointer (some ⟨hb, 0, none⟩)), some (undef), some (.pointer (some ⟨hb, 1, none⟩)), some (undef), some (.pointer (some ⟨hb, 2, none⟩)), some (undef)] (fun k v fl W => (k = 2 → (fun (v : Value) (fl : List Bool) (W : World) => CpV w r.pats v W) v fl W) ∧ (k = 5 → (fun (v : Value) (fl : List Bool) (W : World) => CpV w r.excs v W) v fl W) ∧ (k = 8 → (fun (v : Value) (fl : List Bool) (W : World) => CpV w r.bars v W) v fl W)) (fun U fl W => Cr3 w hb r a U (fl.getD 0 false) (fl.getD 1 false) (fl.getD 2 false) W) (fun j k v u => (j = 2 → k = 5 → (NeW) v u) ∧ (j = 5 → k = 2 → (NeW) u v) ∧ (j = 2 → k = 8 → (NeW) v u) ∧ (j = 8 → k = 2 → (NeW) u v) ∧ (j = 5 → k = 8 → (NeW) v u) ∧ (j = 8 → k = 5 → (NeW) u v)) (by kernel_rfl) (by kernel_rfl) rfl (by decide) (fun U fl W W' h hx => h.next hx) (fun U U' fl W hl hq h => (by obtain ⟨f0, f1, f2, rfl⟩ := flen3 hl; exact Cr3.turn h (fun e => hq 0 (by decide) e 2 (by kernel_rfl)) (fun e => hq 1 (by decide) e 5 (by kernel_rfl)) (fun e => hq 2 (by decide) e 8 (by kernel_rfl)))) (fun k v fl W W' h hx => ⟨fun e => CpV.ext ((h.1 e)) hx, fun e => CpV.ext ((h.2.1 e)) hx, fun e => CpV.ext ((h.2.2 e)) hx⟩) (fun U => HCR.out U) ⟨?_, ?_, ?_, ?_, ?_, ?_, ?_, ?_, ?_, ?_, ?_, ?_, ?_, ?_, ?_, trivial⟩ ?_
  · intro U fl W hS hl hn hd hR hrr
    obtain ⟨f0, f1, f2, rfl⟩ := flen3 hl
    obtain rfl : f0 = false := hn 0 (by decide) (by kernel_rfl)
    clear hR hl hn hd hrr
    have hT : Cr3 w hb r a U _ _ _ W := hS; clear hS
    refine StepZ.go rfl ?_
    go_simp
    exact ⟨TurnV.ext rfl (by repeat (first | exact Ext.refl _ | assumption | refine Ext.alloc ?_ _ | refine Ext.drew ?_ | refine Ext.drewN ?_ _ | (refine Ext.setCell ?_ (by simp <;> omega) _) | refine Ext.trans ?_ (by assumption))), givesS_k (by kernel_rfl), (RelS.of fun j9 v9 hj9 hk9 hp9 => ⟨⟨(fun _ e => absurd e (by decide)), (fun _ e => absurd e (by decide)), (fun _ e => absurd e (by decide)), (fun _ e => absurd e (by decide)), (fun _ e => absurd e (by decide)), (fun _ e => absurd e (by decide))⟩, ⟨(fun e _ => absurd e (by decide)), (fun e _ => absurd e (by decide)), (fun e _ => absurd e (by decide)), (fun e _ => absurd e (by decide)), (fun e _ => absurd e (by decide)), (fun e _ => absurd e (by decide))⟩⟩)⟩
  · intro U fl W hS hl hn hd hR hrr
    obtain ⟨f0, f1, f2, rfl⟩ := flen3 hl
    obtain rfl : f0 = false := hn 0 (by decide) (by kernel_rfl)
    clear hR hl hn hd hrr
    have hT : Cr3 w hb r a U _ _ _ W := hS; clear hS
    have y1 := hT.b.cell 0 (.slice a.pa r.pats.length a.pc) rfl; have yl := hT.b.lt
    refine StepZ.go rfl ?_
    go_simp
    exact ⟨TurnV.ext rfl (by repeat (first | exact Ext.refl _ | assumption | refine Ext.alloc ?_ _ | refine Ext.drew ?_ | refine Ext.drewN ?_ _ | (refine Ext.setCell ?_ (by simp <;> omega) _) | refine Ext.trans ?_ (by assumption))), givesS_k (by kernel_rfl), (RelS.of fun j9 v9 hj9 hk9 hp9 => ⟨⟨(fun _ e => absurd e (by decide)), (fun _ e => absurd e (by decide)), (fun _ e => absurd e (by decide)), (fun _ e => absurd e (by decide)), (fun _ e => absurd e (by decide)), (fun _ e => absurd e (by decide))⟩, ⟨(fun e _ => absurd e (by decide)), (fun e _ => absurd e (by decide)), (fun e _ => absurd e (by decide)), (fun e _ => absurd e (by decide)), (fun e _ => absurd e (by decide)), (fun e _ => absurd e (by decide))⟩⟩)⟩
  · intro U fl W hS hl hn hd hR hrr
    obtain ⟨f0, f1, f2, rfl⟩ := flen3 hl
    obtain rfl : f0 = false := hn 0 (by decide) (by kernel_rfl)
    clear hR hl hn hd hrr
    have hT : Cr3 w hb r a U _ _ _ W := hS; clear hS
    refine StepZ.go rfl ?_
    go_simp
    refine Calls.mono (C1.out _ hT.ext) ?_; rintro e w1 ⟨v9, rfl, ho, hx⟩; obtain ⟨X9, n9, rfl, ho9⟩ := CpV.get ho HL1.out; exact ⟨_, rfl, TurnV.ext rfl hx, givesS_e (by kernel_rfl) ⟨fun _ => CpV.of ho9 hT.ext.size, fun e => absurd e (by decide), fun e => absurd e (by decide)⟩, (RelS.of fun j9 v9 hj9 hk9 hp9 => ⟨⟨(fun _ e => absurd e (by decide)), (fun e _ => by subst e; exact ((CpV.ne ho9 ((hp9.2.1 rfl))).1)), (fun _ e => absurd e (by decide)), (fun e _ => by subst e; exact ((CpV.ne ho9 ((hp9.2.2 rfl))).1)), (fun _ e => absurd e (by decide)), (fun _ e => absurd e (by decide))⟩, ⟨(fun _ e => by subst e; exact ((CpV.ne ho9 ((hp9.2.1 rfl))).1)), (fun e _ => absurd e (by decide)), (fun _ e => by subst e; exact ((CpV.ne ho9 ((hp9.2.2 rfl))).1)), (fun e _ => absurd e (by decide)), (fun e _ => absurd e (by decide)), (fun e _ => absurd e (by decide))⟩⟩)⟩
  · intro U fl W hS hl hn hd hR hrr
    obtain ⟨f0, f1, f2, rfl⟩ := flen3 hl
    obtain rfl : f1 = false := hn 1 (by decide) (by kernel_rfl)
    clear hR hl hn hd hrr
    have hT : Cr3 w hb r a U _ _ _ W := hS; clear hS
    refine StepZ.go rfl ?_
    go_simp
    exact ⟨TurnV.ext rfl (by repeat (first | exact Ext.refl _ | assumption | refine Ext.alloc ?_ _ | refine Ext.drew ?_ | refine Ext.drewN ?_ _ | (refine Ext.setCell ?_ (by simp <;> omega) _) | refine Ext.trans ?_ (by assumption))), givesS_k (by kernel_rfl), (RelS.of fun j9 v9 hj9 hk9 hp9 => ⟨⟨(fun _ e => absurd e (by decide)), (fun _ e => absurd e (by decide)), (fun _ e => absurd e (by decide)), (fun _ e => absurd e (by decide)), (fun _ e => absurd e (by decide)), (fun _ e => absurd e (by decide))⟩, ⟨(fun e _ => absurd e (by decide)), (fun e _ => absurd e (by decide)), (fun e _ => absurd e (by decide)), (fun e _ => absurd e (by decide)), (fun e _ => absurd e (by decide)), (fun e _ => absurd e (by decide))⟩⟩)⟩
  · intro U fl W hS hl hn hd hR hrr
    obtain ⟨f0, f1, f2, rfl⟩ := flen3 hl
    obtain rfl : f1 = false := hn 1 (by decide) (by kernel_rfl)
    clear hR hl hn hd hrr
    have hT : Cr3 w hb r a U _ _ _ W := hS; clear hS
    have y1 := hT.b.cell 1 (.slice a.ea r.excs.length a.ec) rfl; have yl := hT.b.lt
    refine StepZ.go rfl ?_
    go_simp
    exact ⟨TurnV.ext rfl (by repeat (first | exact Ext.refl _ | assumption | refine Ext.alloc ?_ _ | refine Ext.drew ?_ | refine Ext.drewN ?_ _ | (refine Ext.setCell ?_ (by simp <;> omega) _) | refine Ext.trans ?_ (by assumption))), givesS_k (by kernel_rfl), (RelS.of fun j9 v9 hj9 hk9 hp9 => ⟨⟨(fun _ e => absurd e (by decide)), (fun _ e => absurd e (by decide)), (fun _ e => absurd e (by decide)), (fun _ e => absurd e (by decide)), (fun _ e => absurd e (by decide)), (fun _ e => absurd e (by decide))⟩, ⟨(fun e _ => absurd e (by decide)), (fun e _ => absurd e (by decide)), (fun e _ => absurd e (by decide)), (fun e _ => absurd e (by decide)), (fun e _ => absurd e (by decide)), (fun e _ => absurd e (by decide))⟩⟩)⟩
  · intro U fl W hS hl hn hd hR hrr
    obtain ⟨f0, f1, f2, rfl⟩ := flen3 hl
    obtain rfl : f1 = false := hn 1 (by decide) (by kernel_rfl)
    clear hR hl hn hd hrr
    have hT : Cr3 w hb r a U _ _ _ W := hS; clear hS
    refine StepZ.go rfl ?_
    go_simp
    refine Calls.mono (C2.out _ hT.ext) ?_; rintro e w1 ⟨v9, rfl, ho, hx⟩; obtain ⟨X9, n9, rfl, ho9⟩ := CpV.get ho HL2.out; exact ⟨_, rfl, TurnV.ext rfl hx, givesS_e (by kernel_rfl) ⟨fun e => absurd e (by decide), fun _ => CpV.of ho9 hT.ext.size, fun e => absurd e (by decide)⟩, (RelS.of fun j9 v9 hj9 hk9 hp9 => ⟨⟨(fun e _ => by subst e; exact ((CpV.ne ho9 ((hp9.1 rfl))).2)), (fun _ e => absurd e (by decide)), (fun _ e => absurd e (by decide)), (fun _ e => absurd e (by decide)), (fun _ e => absurd e (by decide)), (fun e _ => by subst e; exact ((CpV.ne ho9 ((hp9.2.2 rfl))).1))⟩, ⟨(fun e _ => absurd e (by decide)), (fun _ e => by subst e; exact ((CpV.ne ho9 ((hp9.1 rfl))).2)), (fun e _ => absurd e (by decide)), (fun e _ => absurd e (by decide)), (fun _ e => by subst e; exact ((CpV.ne ho9 ((hp9.2.2 rfl))).1)), (fun e _ => absurd e (by decide))⟩⟩)⟩
  · intro U fl W hS hl hn hd hR hrr
    obtain ⟨f0, f1, f2, rfl⟩ := flen3 hl
    obtain rfl : f2 = false := hn 2 (by decide) (by kernel_rfl)
    clear hR hl hn hd hrr
    have hT : Cr3 w hb r a U _ _ _ W := hS; clear hS
    refine StepZ.go rfl ?_
    go_simp
    exact ⟨TurnV.ext rfl (by repeat (first | exact Ext.refl _ | assumption | refine Ext.alloc ?_ _ | refine Ext.drew ?_ | refine Ext.drewN ?_ _ | (refine Ext.setCell ?_ (by simp <;> omega) _) | refine Ext.trans ?_ (by assumption))), givesS_k (by kernel_rfl), (RelS.of fun j9 v9 hj9 hk9 hp9 => ⟨⟨(fun _ e => absurd e (by decide)), (fun _ e => absurd e (by decide)), (fun _ e => absurd e (by decide)), (fun _ e => absurd e (by decide)), (fun _ e => absurd e (by decide)), (fun _ e => absurd e (by decide))⟩, ⟨(fun e _ => absurd e (by decide)), (fun e _ => absurd e (by decide)), (fun e _ => absurd e (by decide)), (fun e _ => absurd e (by decide)), (fun e _ => absurd e (by decide)), (fun e _ => absurd e (by decide))⟩⟩)⟩
  · intro U fl W hS hl hn hd hR hrr
    obtain ⟨f0, f1, f2, rfl⟩ := flen3 hl
    obtain rfl : f2 = false := hn 2 (by decide) (by kernel_rfl)
    clear hR hl hn hd hrr
    have hT : Cr3 w hb r a U _ _ _ W := hS; clear hS
    have y1 := hT.b.cell 2 (.slice a.ba r.bars.length a.bc) rfl; have yl := hT.b.lt
    refine StepZ.go rfl ?_
    go_simp
    exact ⟨TurnV.ext rfl (by repeat (first | exact Ext.refl _ | assumption | refine Ext.alloc ?_ _ | refine Ext.drew ?_ | refine Ext.drewN ?_ _ | (refine Ext.setCell ?_ (by simp <;> omega) _) | refine Ext.trans ?_ (by assumption))), givesS_k (by kernel_rfl), (RelS.of fun j9 v9 hj9 hk9 hp9 => ⟨⟨(fun _ e => absurd e (by decide)), (fun _ e => absurd e (by decide)), (fun _ e => absurd e (by decide)), (fun _ e => absurd e (by decide)), (fun _ e => absurd e (by decide)), (fun _ e => absurd e (by decide))⟩, ⟨(fun e _ => absurd e (by decide)), (fun e _ => absurd e (by decide)), (fun e _ => absurd e (by decide)), (fun e _ => absurd e (by decide)), (fun e _ => absurd e (by decide)), (fun e _ => absurd e (by decide))⟩⟩)⟩
  · intro U fl W hS hl hn hd hR hrr
    obtain ⟨f0, f1, f2, rfl⟩ := flen3 hl
    obtain rfl : f2 = false := hn 2 (by decide) (by kernel_rfl)
    clear hR hl hn hd hrr
    have hT : Cr3 w hb r a U _ _ _ W := hS; clear hS
    refine StepZ.go rfl ?_
    go_simp
    refine Calls.mono (C3.out _ hT.ext) ?_; rintro e w1 ⟨v9, rfl, ho, hx⟩; obtain ⟨X9, n9, rfl, ho9⟩ := CpV.get ho HL3.out; exact ⟨_, rfl, TurnV.ext rfl hx, givesS_e (by kernel_rfl) ⟨fun e => absurd e (by decide), fun e => absurd e (by decide), fun _ => CpV.of ho9 hT.ext.size⟩, (RelS.of fun j9 v9 hj9 hk9 hp9 => ⟨⟨(fun _ e => absurd e (by decide)), (fun _ e => absurd e (by decide)), (fun e _ => by subst e; exact ((CpV.ne ho9 ((hp9.1 rfl))).2)), (fun _ e => absurd e (by decide)), (fun e _ => by subst e; exact ((CpV.ne ho9 ((hp9.2.1 rfl))).2)), (fun _ e => absurd e (by decide))⟩, ⟨(fun e _ => absurd e (by decide)), (fun e _ => absurd e (by decide)), (fun e _ => absurd e (by decide)), (fun _ e => by subst e; exact ((CpV.ne ho9 ((hp9.1 rfl))).2)), (fun e _ => absurd e (by decide)), (fun _ e => by subst e; exact ((CpV.ne ho9 ((hp9.2.1 rfl))).2))⟩⟩)⟩
  · intro U fl W hS hl hn hd hR hrr
    obtain ⟨f0, f1, f2, rfl⟩ := flen3 hl
    obtain rfl : f0 = false := hn 0 (by decide) (by kernel_rfl)
    clear hR hl hn hd hrr
    have hT : Cr3 w hb r a U _ _ _ W := hS; clear hS
    refine StepZ.go rfl ?_
    go_simp
    exact ⟨TurnV.ext rfl (by repeat (first | exact Ext.refl _ | assumption | refine Ext.alloc ?_ _ | refine Ext.drew ?_ | refine Ext.drewN ?_ _ | (refine Ext.setCell ?_ (by simp <;> omega) _) | refine Ext.trans ?_ (by assumption))), givesS_k (by kernel_rfl), (RelS.of fun j9 v9 hj9 hk9 hp9 => ⟨⟨(fun _ e => absurd e (by decide)), (fun _ e => absurd e (by decide)), (fun _ e => absurd e (by decide)), (fun _ e => absurd e (by decide)), (fun _ e => absurd e (by decide)), (fun _ e => absurd e (by decide))⟩, ⟨(fun e _ => absurd e (by decide)), (fun e _ => absurd e (by decide)), (fun e _ => absurd e (by decide)), (fun e _ => absurd e (by decide)), (fun e _ => absurd e (by decide)), (fun e _ => absurd e (by decide))⟩⟩)⟩
  · intro U fl W hS hl hn hd hR hrr
    obtain ⟨f0, f1, f2, rfl⟩ := flen3 hl
    obtain rfl : f0 = false := hn 0 (by decide) (by kernel_rfl)
    have r2 := (hR 2 (by decide) (by kernel_rfl)).1 rfl; obtain ⟨A2, c2, e2_, o2⟩ := r2
    clear hR hl hn hd hrr
    have hT : Cr3 w hb r a U _ _ _ W := hS; clear hS
    (try rw [e2_]); obtain ⟨y1, yf, yl⟩ := hT.c0
    refine StepZ.go rfl ?_
    go_simp
    exact ⟨rfl, TurnV.sp rfl (Cr3.sto0 hT e2_) (fun k9 v9 hk9 h9 hr9 => ⟨fun e => by subst e; exact (CpV.sto ((h9.1 rfl)) hT.b), fun e => by subst e; exact (CpV.sto ((h9.2.1 rfl)) hT.b), fun e => by subst e; exact (CpV.sto ((h9.2.2 rfl)) hT.b)⟩), givesS_k (by kernel_rfl), (RelS.of fun j9 v9 hj9 hk9 hp9 => ⟨⟨(fun _ e => absurd e (by decide)), (fun _ e => absurd e (by decide)), (fun _ e => absurd e (by decide)), (fun _ e => absurd e (by decide)), (fun _ e => absurd e (by decide)), (fun _ e => absurd e (by decide))⟩, ⟨(fun e _ => absurd e (by decide)), (fun e _ => absurd e (by decide)), (fun e _ => absurd e (by decide)), (fun e _ => absurd e (by decide)), (fun e _ => absurd e (by decide)), (fun e _ => absurd e (by decide))⟩⟩)⟩
  · intro U fl W hS hl hn hd hR hrr
    obtain ⟨f0, f1, f2, rfl⟩ := flen3 hl
    obtain rfl : f1 = false := hn 1 (by decide) (by kernel_rfl)
    clear hR hl hn hd hrr
    have hT : Cr3 w hb r a U _ _ _ W := hS; clear hS
    refine StepZ.go rfl ?_
    go_simp
    exact ⟨TurnV.ext rfl (by repeat (first | exact Ext.refl _ | assumption | refine Ext.alloc ?_ _ | refine Ext.drew ?_ | refine Ext.drewN ?_ _ | (refine Ext.setCell ?_ (by simp <;> omega) _) | refine Ext.trans ?_ (by assumption))), givesS_k (by kernel_rfl), (RelS.of fun j9 v9 hj9 hk9 hp9 => ⟨⟨(fun _ e => absurd e (by decide)), (fun _ e => absurd e (by decide)), (fun _ e => absurd e (by decide)), (fun _ e => absurd e (by decide)), (fun _ e => absurd e (by decide)), (fun _ e => absurd e (by decide))⟩, ⟨(fun e _ => absurd e (by decide)), (fun e _ => absurd e (by decide)), (fun e _ => absurd e (by decide)), (fun e _ => absurd e (by decide)), (fun e _ => absurd e (by decide)), (fun e _ => absurd e (by decide))⟩⟩)⟩
  · intro U fl W hS hl hn hd hR hrr
    obtain ⟨f0, f1, f2, rfl⟩ := flen3 hl
    obtain rfl : f1 = false := hn 1 (by decide) (by kernel_rfl)
    have r5 := (hR 5 (by decide) (by kernel_rfl)).2.1 rfl; obtain ⟨A5, c5, e5_, o5⟩ := r5
    clear hR hl hn hd hrr
    have hT : Cr3 w hb r a U _ _ _ W := hS; clear hS
    (try rw [e5_]); obtain ⟨y1, yf, yl⟩ := hT.c1
    refine StepZ.go rfl ?_
    go_simp
    exact ⟨rfl, TurnV.sp rfl (Cr3.sto1 hT e5_) (fun k9 v9 hk9 h9 hr9 => ⟨fun e => by subst e; exact (CpV.sto ((h9.1 rfl)) hT.b), fun e => by subst e; exact (CpV.sto ((h9.2.1 rfl)) hT.b), fun e => by subst e; exact (CpV.sto ((h9.2.2 rfl)) hT.b)⟩), givesS_k (by kernel_rfl), (RelS.of fun j9 v9 hj9 hk9 hp9 => ⟨⟨(fun _ e => absurd e (by decide)), (fun _ e => absurd e (by decide)), (fun _ e => absurd e (by decide)), (fun _ e => absurd e (by decide)), (fun _ e => absurd e (by decide)), (fun _ e => absurd e (by decide))⟩, ⟨(fun e _ => absurd e (by decide)), (fun e _ => absurd e (by decide)), (fun e _ => absurd e (by decide)), (fun e _ => absurd e (by decide)), (fun e _ => absurd e (by decide)), (fun e _ => absurd e (by decide))⟩⟩)⟩
  · intro U fl W hS hl hn hd hR hrr
    obtain ⟨f0, f1, f2, rfl⟩ := flen3 hl
    obtain rfl : f2 = false := hn 2 (by decide) (by kernel_rfl)
    clear hR hl hn hd hrr
    have hT : Cr3 w hb r a U _ _ _ W := hS; clear hS
    refine StepZ.go rfl ?_
    go_simp
    exact ⟨TurnV.ext rfl (by repeat (first | exact Ext.refl _ | assumption | refine Ext.alloc ?_ _ | refine Ext.drew ?_ | refine Ext.drewN ?_ _ | (refine Ext.setCell ?_ (by simp <;> omega) _) | refine Ext.trans ?_ (by assumption))), givesS_k (by kernel_rfl), (RelS.of fun j9 v9 hj9 hk9 hp9 => ⟨⟨(fun _ e => absurd e (by decide)), (fun _ e => absurd e (by decide)), (fun _ e => absurd e (by decide)), (fun _ e => absurd e (by decide)), (fun _ e => absurd e (by decide)), (fun _ e => absurd e (by decide))⟩, ⟨(fun e _ => absurd e (by decide)), (fun e _ => absurd e (by decide)), (fun e _ => absurd e (by decide)), (fun e _ => absurd e (by decide)), (fun e _ => absurd e (by decide)), (fun e _ => absurd e (by decide))⟩⟩)⟩
  · intro U fl W hS hl hn hd hR hrr
    obtain ⟨f0, f1, f2, rfl⟩ := flen3 hl
    obtain rfl : f2 = false := hn 2 (by decide) (by kernel_rfl)
    have r8 := (hR 8 (by decide) (by kernel_rfl)).2.2 rfl; obtain ⟨A8, c8, e8_, o8⟩ := r8
    clear hR hl hn hd hrr
    have hT : Cr3 w hb r a U _ _ _ W := hS; clear hS
    (try rw [e8_]); obtain ⟨y1, yf, yl⟩ := hT.c2
    refine StepZ.go rfl ?_
    go_simp
    exact ⟨rfl, TurnV.sp rfl (Cr3.sto2 hT e8_) (fun k9 v9 hk9 h9 hr9 => ⟨fun e => by subst e; exact (CpV.sto ((h9.1 rfl)) hT.b), fun e => by subst e; exact (CpV.sto ((h9.2.1 rfl)) hT.b), fun e => by subst e; exact (CpV.sto ((h9.2.2 rfl)) hT.b)⟩), givesS_k (by kernel_rfl), (RelS.of fun j9 v9 hj9 hk9 hp9 => ⟨⟨(fun _ e => absurd e (by decide)), (fun _ e => absurd e (by decide)), (fun _ e => absurd e (by decide)), (fun _ e => absurd e (by decide)), (fun _ e => absurd e (by decide)), (fun _ e => absurd e (by decide))⟩, ⟨(fun e _ => absurd e (by decide)), (fun e _ => absurd e (by decide)), (fun e _ => absurd e (by decide)), (fun e _ => absurd e (by decide)), (fun e _ => absurd e (by decide)), (fun e _ => absurd e (by decide))⟩⟩)⟩
  · intro U W hS hR hRR
    have q2_5 := (hRR 2 5 (by decide) (by decide) (by decide) (by kernel_rfl) (by kernel_rfl)).1 rfl rfl
    have q2_8 := (hRR 2 8 (by decide) (by decide) (by decide) (by kernel_rfl) (by kernel_rfl)).2.2.1 rfl rfl
    have q5_8 := (hRR 5 8 (by decide) (by decide) (by decide) (by kernel_rfl) (by kernel_rfl)).2.2.2.2.1 rfl rfl
    clear hRR
    have r2 := (hR 2 (by decide) (by kernel_rfl)).1 rfl; obtain ⟨A2, c2, e2_, o2⟩ := r2
    have r5 := (hR 5 (by decide) (by kernel_rfl)).2.1 rfl; obtain ⟨A5, c5, e5_, o5⟩ := r5
    have r8 := (hR 8 (by decide) (by kernel_rfl)).2.2 rfl; obtain ⟨A8, c8, e8_, o8⟩ := r8
    clear hR
    have hT : Cr3 w hb r a U true true true W := hS; clear hS
    simp only [putAll, vu, Act.put, List.setIfInBounds_toArray, List.set_cons_zero, List.set_cons_succ]
    (try simp only [e2_])
    (try simp only [e5_])
    (try simp only [e8_])
    have hb9 := hT.b
    unfold crC at hb9
    rw [if_pos rfl, if_pos rfl, if_pos rfl, e2_, e5_, e8_] at hb9
    have hrb := hT.rb
    have hlo := hT.lo
    have HX := Lib.hid hT.ext
    rw [e2_] at o2 q2_5 q2_8
    rw [e5_] at o5 q2_5 q5_8
    rw [e8_] at o8 q2_8 q5_8
    have HO2 := Lib.hid o2; have HO5 := Lib.hid o5; have HO8 := Lib.hid o8
    have HQ := Lib.hid (And.intro q2_5 (And.intro q2_8 q5_8))
    clear hT o2 o5 o8 q2_5 q2_8 q5_8 HCR
    obtain ⟨⟨y0, y1, y2⟩, y3, y4, yl⟩ : (W.cell? ⟨hb, 0, none⟩ = some (.slice A2 r.pats.length c2) ∧ W.cell? ⟨hb, 1, none⟩ = some (.slice A5 r.excs.length c5) ∧ W.cell? ⟨hb, 2, none⟩ = some (.slice A8 r.bars.length c8)) ∧ W.cell? ⟨hb, 3, none⟩ = some (.int .i64 r.left) ∧ W.cell? ⟨hb, 4, none⟩ = some (.int .i64 r.right) ∧ hb < W.heap.size := ⟨⟨hb9.cell 0 _ rfl, hb9.cell 1 _ rfl, hb9.cell 2 _ rfl⟩, hb9.cell 3 _ rfl, hb9.cell 4 _ rfl, hb9.lt⟩
    have F := hrb.frozen
    have hrl := hrb.lt
    have HRB := Lib.hid hrb
    have HLO := Lib.hid hlo
    clear hb9 hrb hlo
    obtain ⟨g0, g1, g2, g3, g4⟩ : W.cell? ⟨hb + 1, 0, none⟩ = some (.slice none 0 0) ∧ W.cell? ⟨hb + 1, 1, none⟩ = some (.slice none 0 0) ∧ W.cell? ⟨hb + 1, 2, none⟩ = some (.slice none 0 0) ∧ W.cell? ⟨hb + 1, 3, none⟩ = some (.int .i64 0) ∧ W.cell? ⟨hb + 1, 4, none⟩ = some (.int .i64 0) := ⟨HRB.out.cell 0 _ rfl, HRB.out.cell 1 _ rfl, HRB.out.cell 2 _ rfl, HRB.out.cell 3 _ rfl, HRB.out.cell 4 _ rfl⟩
    go_wp2
    have h1 := HRB.out.set_ 0 (.slice A2 r.pats.length c2)
    have h2 := h1.set_ 1 (.slice A5 r.excs.length c5)
    have h3 := h2.set_ 2 (.slice A8 r.bars.length c8)
    have h4 := h3.set_ 3 (.int .i64 r.left)
    have h5 := h4.set_ 4 (.int .i64 r.right)
    have keep : ∀ ss v, CpV w ss v W → CpV w ss v (((((W.setCell ⟨hb + 1, 0, none⟩ (.slice A2 r.pats.length c2)).setCell ⟨hb + 1, 1, none⟩ (.slice A5 r.excs.length c5)).setCell ⟨hb + 1, 2, none⟩ (.slice A8 r.bars.length c8)).setCell ⟨hb + 1, 3, none⟩ (.int .i64 r.left)).setCell ⟨hb + 1, 4, none⟩ (.int .i64 r.right)) := fun ss v h => ((((h.sto HRB.out).sto h1).sto h2).sto h3).sto h4
    have hx : Ext w (((((W.setCell ⟨hb + 1, 0, none⟩ (.slice A2 r.pats.length c2)).setCell ⟨hb + 1, 1, none⟩ (.slice A5 r.excs.length c5)).setCell ⟨hb + 1, 2, none⟩ (.slice A8 r.bars.length c8)).setCell ⟨hb + 1, 3, none⟩ (.int .i64 r.left)).setCell ⟨hb + 1, 4, none⟩ (.int .i64 r.right)) := by
      have hl := HLO.out
      exact ((((HX.out.setCell (p := ⟨hb + 1, 0, none⟩) (by simp only; omega) _).setCell (p := ⟨hb + 1, 1, none⟩) (by simp only; omega) _).setCell (p := ⟨hb + 1, 2, none⟩) (by simp only; omega) _).setCell (p := ⟨hb + 1, 3, none⟩) (by simp only; omega) _).setCell (p := ⟨hb + 1, 4, none⟩) (by simp only; omega) _
    have s0 := h5.cell 0 _ rfl; have s1 := h5.cell 1 _ rfl; have s2 := h5.cell 2 _ rfl; have s3 := h5.cell 3 _ rfl; have s4 := h5.cell 4 _ rfl
    have o2 := keep _ _ ⟨A2, c2, rfl, HO2.out⟩; have o5 := keep _ _ ⟨A5, c5, rfl, HO5.out⟩; have o8 := keep _ _ ⟨A8, c8, rfl, HO8.out⟩
    clear keep h1 h2 h3 h4 h5 g0 g1 g2 g3 g4
    generalize (((((W.setCell ⟨hb + 1, 0, none⟩ (.slice A2 r.pats.length c2)).setCell ⟨hb + 1, 1, none⟩ (.slice A5 r.excs.length c5)).setCell ⟨hb + 1, 2, none⟩ (.slice A8 r.bars.length c8)).setCell ⟨hb + 1, 3, none⟩ (.int .i64 r.left)).setCell ⟨hb + 1, 4, none⟩ (.int .i64 r.right)) = W9 at *
    refine bodyPost_ret (v := r.val ⟨A2, c2, A5, c5, A8, c8⟩) (by simp [results, Tryz.results16, go_sem, RU.val, s0, s1, s2, s3, s4]) rfl ?_
    obtain ⟨_, _, he2, hw2⟩ := o2; obtain ⟨_, _, he5, hw5⟩ := o5; obtain ⟨_, _, he8, hw8⟩ := o8
    refine ⟨⟨A2, c2, A5, c5, A8, c8⟩, rfl, ⟨CpV.rs hw2 HL1.out, CpV.rs hw5 HL2.out, CpV.rs hw8 HL3.out, HLR.out.1, HLR.out.2⟩, ⟨hw2, hw5, hw8⟩, HQ.out, hx⟩
end Go.Proofs.YtccdnieoaejgdaaGreatDoor
