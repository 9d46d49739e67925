/-
  Walks: CheckScheme of a right scheme.
-/
import Derived.Test.YtniiahddpdiocaaFoldS1
namespace Go.Proofs.Ytniiahddpdiocaa
open Go.RowKit

theorem made_bools (n : Nat) : (madeCells (Value.bool false).cells (n * 1)).toList = (List.replicate n false).map Value.bool := by
  unfold madeCells
  simp only [Value.cells, List.map_replicate, List.eq_replicate_iff]
  simp
  intro a _
  rw [Nat.mod_one]; rfl
theorem boolElt : Elt 142 4 1 1 (.bool false) := ⟨Try.underlying142, by kernel_rfl, rfl, by decide, by decide⟩
theorem list_makeC {sl el : TypeId} {size bytes : Nat} {z : Value} (Kt : Elt sl el size bytes z) {w : World} {ops : Array Oper} {rest : List Oper} {o : Oper} {a : Act} {Q : Exit → Act → World → Prop} (hgd : o.guard = none) (l c : Operand) (hop : o.op = Op.makeSlice sl l c)
    (n : Nat) (hl : a.eval l = .int .i64 (n : Int)) (hc : a.eval c = .int .i64 (n : Int)) (hn : n ≤ 1000000)
    (h : ∀ w', w'.ownsRow w.heap.size el size (.slice (some ⟨w.heap.size, 0, none⟩) n n) n (madeCells z.cells (n * size)).toList → Ext w w' → wpList Try.prog ops Q rest (a.put o.dst (.slice (some ⟨w.heap.size, 0, none⟩) n n)) w') : wpList Try.prog ops Q (o :: rest) a w := by
  obtain ⟨i0, hi, hz0, hz1, hz2⟩ := Kt.parts
  have hle := Kt.le
  have hb : bytes * n ≤ 1000 * 1000000 := Nat.mul_le_mul hle hn
  refine wpList_make_full w hgd l c sl hop w.heap.size el i0 z size Kt.und hi hz0 hz1 .i64 .i64 (n : Int) (n : Int) n hl hc rfl rfl (by rw [hz2]; omega) (by unfold maxLen; omega) (Nat.le_refl _) ?_
  intro w' hown hg
  exact h w' hown (Ext.grown (Ext.refl _) hg fun k hk => by cases hk)
/-- The marks of the numbers seen. -/
structure Seen (w wr : World) (base : Nat) (v : Value) (m : Nat) (l : List Cl) (i : Nat) (sn : List Bool) : Prop where
  ext : Ext w wr
  hb : w.heap.size ≤ base
  own : wr.ownsRow base 4 1 v m (sn.map Value.bool)
  len : sn.length = m
  say : ∀ p : Nat, sn.getD p false = true → ∃ j, j < i ∧ ((l.getD j Cl.zero).f = (p : Int) ∨ (l.getD j Cl.zero).b = (p : Int))
theorem Seen.mark {w wr W : World} {base m i g cap p q : Nat} {l : List Cl} {sn : List Bool} (h : Seen w wr base (.slice (some ⟨g, 0, none⟩) m cap) m l i sn) (hp : (l.getD i Cl.zero).f = (p : Int) ∨ (l.getD i Cl.zero).b = (p : Int)) (hq : (l.getD i Cl.zero).f = (q : Int) ∨ (l.getD i Cl.zero).b = (q : Int))
    (hW : W = (wr.setCell ⟨g, p, none⟩ (.bool true)).setCell ⟨g, q, none⟩ (.bool true)) : ∃ sn', Seen w W base (.slice (some ⟨g, 0, none⟩) m cap) m l (i + 1) sn' := by
  subst hW
  have s1 := World.ownsRow.stored h.own p (.bool true)
  have s2 := World.ownsRow.stored s1.1 q (.bool true)
  have hg := (h.own.lt g rfl).1
  have key : ∀ (sn : List Bool) (r k : Nat), (sn.set r true).getD k false = true → sn.getD k false = true ∨ k = r := fun sn r k hk => by
    by_cases e : k = r
    · exact .inr e
    · left
      rw [List.getD_eq_getElem?_getD, List.getElem?_set_ne (fun e2 => e e2.symm)] at hk
      rw [List.getD_eq_getElem?_getD]; exact hk
  refine ⟨(sn.set p true).set q true, (h.ext.setCell (p := ⟨g, p, none⟩) (Nat.le_trans h.hb hg) _).setCell (p := ⟨g, q, none⟩) (Nat.le_trans h.hb hg) _, h.hb, ?_, by rw [List.length_set, List.length_set]; exact h.len, fun k hk => ?_⟩
  · rw [List.map_set, List.map_set]; exact s2.1
  · rcases key _ _ _ hk with h1 | h1
    · rcases key _ _ _ h1 with h2 | h2
      · obtain ⟨j, hj, h3⟩ := h.say k h2
        exact ⟨j, by omega, h3⟩
      · subst h2; exact ⟨i, by omega, hp⟩
    · subst h1; exact ⟨i, by omega, hq⟩
theorem Seen.drew {w wr : World} {base m i : Nat} {v : Value} {l : List Cl} {sn : List Bool} (h : Seen w wr base v m l i sn) : Seen w wr.drew base v m l i sn := ⟨h.ext.drew, h.hb, h.own.drew, h.len, h.say⟩
theorem Seen.next {w wr w' : World} {base m i : Nat} {v : Value} {l : List Cl} {sn : List Bool} (h : Seen w wr base v m l i sn) (hx : Ext wr w') : Seen w w' base v m l i sn := ⟨h.ext.trans hx, h.hb, own_later h.own hx, h.len, h.say⟩
set_option maxRecDepth 100000 in
set_option maxHeartbeats 8000000 in
theorem checkScheme_any (C R : Nat) (A : Option Addr) (c : Nat) (l : List Cl) (w : World) (h : RCl w A l) (hl : l.length = R * C) (hz : sheetE (C : Int) (R : Int) = 0) (hr : RightC l) :
    Calls Try.prog 61 #[.agg #[.int .i64 (C : Int), .int .i64 (R : Int), .slice A l.length c]] w (Ret (.tuple #[.int .i64 0, .int .i64 0]) w) := by
  obtain ⟨C', R', e1, e2, c1, c8, r1, r8, hrc⟩ := sheetE_zero hz
  obtain rfl : C = C' := by omega
  obtain rfl : R = R' := by omega
  clear e1 e2
  have HR := Lib.hid h
  have HRC := Lib.hid hr
  have CS : Hid (∀ W, Calls Try.prog 54 #[.int .i64 (C : Int), .int .i64 (R : Int)] W (Same (.int .i64 0) W)) := Lib.hid fun W => by
    have := checkSheet_any (C : Int) (R : Int) W
    rwa [hz] at this
  obtain ⟨n, hn⟩ : ∃ n, n = l.length := ⟨_, rfl⟩
  have hnl : n ≤ 32 := by omega
  have hw1 : IntKind.i64.wrap ((C : Int) * (R : Int)) = (n : Int) := by
    rw [← Int.natCast_mul, IntWalk.i64_in _ (by rw [Nat.mul_comm] at hl; omega)]
    rw [hn, hl, Nat.mul_comm]
  have HNL := Lib.hid hn
  have hbl : n ≤ 9223372036854775807 := by omega
  rw [← hn]
  obtain ⟨m, hm⟩ : ∃ m, m = 2 * n + 1 := ⟨_, rfl⟩
  have hw2 : IntKind.i64.wrap (2 * (n : Int)) = 2 * (n : Int) := IntWalk.i64_in _ (by omega)
  have hw3 : IntKind.i64.wrap (2 * (n : Int) + 1) = (m : Int) := by rw [IntWalk.i64_in _ (by omega)]; omega
  have en : ((n : Int) != (n : Int)) = false := by simp
  have HM := Lib.hid hm
  have hm65 : m ≤ 65 := by omega
  clear h hl hz hr hn hm
  go_enter Try.func61, Try.ntmps61
  go_wp2_with (first | (go_at_call 54; refine Calls.mono (CS.out _) ?_; rintro e w1 ⟨rfl, rfl⟩) | (refine list_makeC boolElt rfl (.tmp 29) (.tmp 29) rfl m rfl rfl (by omega) ?_; intro w2 ho hx; rw [made_bools] at ho; have HO := Lib.hid ho; have HX := Lib.hid (Ext.trans (by repeat (first | exact Ext.refl _ | assumption | refine Ext.alloc ?_ _ | refine Ext.drew ?_ | refine Ext.drewN ?_ _ | (refine Ext.setCell ?_ (by simp <;> omega) _) | refine Ext.trans ?_ (by assumption))) hx : Ext w w2); have HSC := Lib.hid ((Blk.new w 28 #[.int .i64 (C : Int), .int .i64 (R : Int), .slice A n c]).ext hx); obtain ⟨k0, k1, k2, kl⟩ := HSC.out.c3; clear ho hx))
  obtain ⟨g, hg⟩ : ∃ g, w.heap.size + 1 = g := ⟨_, rfl⟩
  rw [World.size_alloc] at HO
  rw [hg] at HO ⊢
  have HS0 : Hid (Seen w w2 g (.slice (some ⟨g, 0, none⟩) m m) m l 0 (List.replicate m false)) := Lib.hid
    ⟨HX.out, by omega, HO.out, by simp, fun p hp => by
      rw [List.getD_eq_getElem?_getD, List.getElem?_replicate] at hp
      split at hp <;> simp at hp⟩
  clear hg HO HX k0 k1 k2 kl
  go_loopw [34, 7, 8] (fun v34 _ _ wr => ∃ (i : Nat) (sn : List Bool), i ≤ n ∧ v34 = .int .i64 (i : Int) ∧ Hid (Seen w wr g (.slice (some ⟨g, 0, none⟩) m m) m l i sn)) (fun v34 _ _ _ => n - (intOf v34).toNat)
  case atStart => exact ⟨0, _, Nat.zero_le _, rfl, HS0⟩
  case round =>
    clear HS0
    obtain ⟨i, sn, hi, rfl, HS⟩ := hrel
    by_cases hlt : i < n
    case pos =>
      have ii : (i : Int) < (n : Int) := by omega
      have hil : i < l.length := by have := HNL.out; omega
      obtain ⟨b, off, rfl, hbw, q0, q1, q2, q3⟩ := (RCl.ext HR.out HS.out.ext).at_ hil
      obtain ⟨g1, g2, g3, g4, g5, g6, g7⟩ := HRC.out.rng i hil
      rw [← HNL.out] at g2 g4
      have HDU := Lib.hid (HRC.out.dup i hil)
      have hown := HS.out.own
      have HMK := Lib.hid fun W0 (hs0 : Seen w W0 g (.slice (some ⟨g, 0, none⟩) m m) m l i sn) W p q (hp : (l.getD i Cl.zero).f = ((p : Nat) : Int) ∨ (l.getD i Cl.zero).b = ((p : Nat) : Int)) (hq : (l.getD i Cl.zero).f = ((q : Nat) : Int) ∨ (l.getD i Cl.zero).b = ((q : Nat) : Int)) hW => Seen.mark (W := W) (p := p) (q := q) hs0 hp hq hW
      have hmm := HM.out
      generalize hx : l.getD i Cl.zero = x at *
      obtain ⟨xf, xft, xb, xbt⟩ := x
      simp only at g1 g2 g3 g4 g5 g6 g7 q0 q1 q2 q3 HDU HMK
      obtain ⟨f, rfl⟩ : ∃ f : Nat, xf = (f : Int) := ⟨xf.toNat, by omega⟩
      obtain ⟨bk, rfl⟩ : ∃ bk : Nat, xb = (bk : Int) := ⟨xb.toNat, by omega⟩
      have hsf : sn.getD f false = false := by
        cases hc : sn.getD f false with
        | false => rfl
        | true =>
          obtain ⟨j, hj, h3⟩ := HS.out.say f hc
          have := HDU.out j hj
          rcases h3 with h3 | h3
          · exact absurd h3.symm this.1
          · exact absurd h3.symm this.2.1
      have hsb : sn.getD bk false = false := by
        cases hc : sn.getD bk false with
        | false => rfl
        | true =>
          obtain ⟨j, hj, h3⟩ := HS.out.say bk hc
          have := HDU.out j hj
          rcases h3 with h3 | h3
          · exact absurd h3.symm this.2.2.1
          · exact absurd h3.symm this.2.2.2
      have hcell : ∀ p, p < m → sn.getD p false = false → wr.cell? ⟨g, p, none⟩ = some (.bool false) := fun p hp hs => by
        rw [World.ownsRow.cellAt hown p (by omega), List.getElem?_map]
        rw [List.getD_eq_getElem?_getD, List.getElem?_eq_getElem (by rw [HS.out.len]; exact hp)] at hs
        rw [List.getElem?_eq_getElem (by rw [HS.out.len]; exact hp)]
        simp only [Option.getD_some] at hs
        rw [hs]; rfl
      have y1 := hcell f (by omega) hsf
      have y2 := hcell bk (by omega) hsb
      have F := World.ownsRow.frozenAt hown
      have hgl := (hown.lt g rfl).2
      have jf : (f : Int) < (m : Int) := by omega
      have jb : (bk : Int) < (m : Int) := by omega
      have efb : ((f : Int) == (bk : Int)) = false := by simpa using g7
      have HMM := Lib.hid hmm
      have g5' : 0 ≤ xft ∧ xft ≤ 1 := by omega
      have g6' : 0 ≤ xbt ∧ xbt ≤ 1 := by omega
      have mixed : Try.prog.follows .mixedOrders = true := by kernel_rfl
      clear hcell hown hsf hsb hx hmm g5 g6 HDU hil
      go_upto_region 15 with (first | (go_at_call 60; refine Calls.mono (iWithin_yes _ _ _ _ ?_) ?_; (omega); rintro e w1 ⟨rfl, rfl⟩) | (go_at_call 60; refine Calls.mono (iWithin_no _ _ _ _ ?_) ?_; (omega); rintro e w1 ⟨rfl, rfl⟩))
      go_region_o
      all_goals
        go_wp2
        go_roundw
        case rel =>
          first
            | (obtain ⟨sn', hs'⟩ := HMK.out _ HS.out _ f bk (.inl rfl) (.inr rfl) rfl; exact ⟨i + 1, sn', by omega, by go_num, Lib.hid (hs'.next ((Ext.refl _).alloc _)).drew⟩)
            | (obtain ⟨sn', hs'⟩ := HMK.out _ HS.out _ bk f (.inr rfl) (.inl rfl) rfl; exact ⟨i + 1, sn', by omega, by go_num, Lib.hid (hs'.next ((Ext.refl _).alloc _)).drew⟩)
        case measure => simp [intOf]; omega
    case neg =>
      obtain rfl : i = n := by omega
      have iN : ¬ (i : Int) < (i : Int) := by omega
      have HXS := Lib.hid HS.out.ext
      clear hlt hi
      go_wp2
      refine bodyPost_ret (v := .tuple #[.int .i64 0, .int .i64 0]) (by simp [results, Try.results61, go_sem]) rfl ⟨rfl, HXS.out⟩
end Go.Proofs.Ytniiahddpdiocaa
