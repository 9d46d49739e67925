/-
  A map from words to slices of places that the call itself has made, told by a plain function; rules and the ruler in memory.
  Rules and the ruler in memory; walk: the levels of a word.
  Arguments opened: a slice of texts, rules, as they lie in memory when the call begins.
  Walks: chapter 5: the reference's decimals and folios.
-/
import Derived.Test.YtccdnieoaejgdaaGreatDoorT2AO
import Derived.Test.YtccdnieoaejgdaaGreatDoorT2AA
import Derived.Test.YtccdnieoaejgdaaGreatDoorT2AE
import Derived.Deep.Strs
import Derived.Test.YtccdnieoaejgdaaGreatDoorT2AI
set_option linter.unusedVariables false
set_option linter.unusedSimpArgs false
set_option linter.unusedSectionVars false
namespace Go.Proofs.YtccdnieoaejgdaaGreatDoor
open Go.RowKit Go.WideMaps Go.Maps

/-- An element is told by itself. -/
def heldElem (v : Value) : Option (DataW Value × List MemPlace) := some (.held v, [])
theorem zeroInts (w : World) : (zeroValue 27).run Tryz.prog w = .ok (.slice none 0 0) w := by kernel_rfl
/-- Block b is a map of at most n entries that answers as f. -/
def KV (w : World) (b n : Nat) (f : List UInt8 → Option Value) : Prop :=
  ∃ D : DataW Value, w.ownsMap Tryz.prog 9 heldElem b n D ∧ (∃ l, D = .map l) ∧ ∀ s zd, D.atKey (.string s) zd = match f s with | some v => .held v | none => zd
section
variable {w w' : World} {b n : Nat} {f : List UInt8 → Option Value}
theorem KV.ext (h : KV w b n f) (hx : Ext w w') : KV w' b n f := by
  obtain ⟨D, ho, hm, hf⟩ := h
  have hlt := ho.lt
  obtain ⟨es, clock, hb, F, hs, hD⟩ := ho
  exact ⟨D, ⟨es, clock, (hx.block hlt).trans hb, F, hs, hD⟩, hm, hf⟩
theorem KV.kept {row : Option Nat} (h : KV w b n f) (hg : w.grownBy w' row) (hne : some b ≠ row) : KV w' b n f := by
  obtain ⟨D, ho, hm, hf⟩ := h
  exact ⟨D, ho.kept hg hne, hm, hf⟩
theorem KV.made (w : World) : KV (w.alloc (.map #[] 0)) w.heap.size 0 (fun _ => none) :=
  ⟨.map [], World.ownsMap_made _ _ _ _, ⟨_, rfl⟩, fun _ _ => rfl⟩
theorem KV.look (h : KV w b n f) (s : ByteArray) (hs : s.size ≤ maxLen) :
    (Instr.lookup 134 (.map (some b)) (.string s) true).run Tryz.prog w = .ok (.tuple #[(f s.data.toList).getD (.slice none 0 0), .bool (f s.data.toList).isSome]) w := by
  obtain ⟨D, ⟨es, clock, hb, F, _, rfl⟩, _, hf⟩ := h
  have hk := keyOf_string_mk (P := Tryz.prog) Tryz.underlying9 hs
  have h1 := hf s.data.toList .nil
  rcases Maps.fit_look true strKeyed Tryz.underlying134 (zeroInts w) hb F hk with ⟨hrun, _, hat⟩ | ⟨e0, y, _, _, hrun, hRv, hat, _⟩
  · rw [hat] at h1
    cases hfs : f s.data.toList with
    | none => simpa using hrun
    | some z => rw [hfs] at h1; cases h1
  · rw [hat] at h1
    unfold heldElem at hRv
    cases hRv
    cases hfs : f s.data.toList with
    | none => rw [hfs] at h1; cases h1
    | some z' => rw [hfs] at h1; cases h1; simpa using hrun
theorem KV.look1 (h : KV w b n f) (s : ByteArray) (hs : s.size ≤ maxLen) :
    (Instr.lookup 134 (.map (some b)) (.string s) false).run Tryz.prog w = .ok ((f s.data.toList).getD (.slice none 0 0)) w := by
  obtain ⟨D, ⟨es, clock, hb, F, _, rfl⟩, _, hf⟩ := h
  have hk := keyOf_string_mk (P := Tryz.prog) Tryz.underlying9 hs
  have h1 := hf s.data.toList .nil
  rcases Maps.fit_look false strKeyed Tryz.underlying134 (zeroInts w) hb F hk with ⟨hrun, _, hat⟩ | ⟨e0, y, _, _, hrun, hRv, hat, _⟩
  · rw [hat] at h1
    cases hfs : f s.data.toList with
    | none => simpa using hrun
    | some z => rw [hfs] at h1; cases h1
  · rw [hat] at h1
    unfold heldElem at hRv
    cases hRv
    cases hfs : f s.data.toList with
    | none => rw [hfs] at h1; cases h1
    | some z' => rw [hfs] at h1; cases h1; simpa using hrun
set_option maxRecDepth 100000 in
theorem KV.put (h : KV w b n f) (s : ByteArray) (hs : s.size ≤ maxLen) (z : Value) (hn : n < maxLen) :
    ∃ w', (Instr.mapUpdate 134 (.map (some b)) (.string s) z).run Tryz.prog w = .ok () w' ∧ KV w' b (n + 1) (fun t => if t = s.data.toList then some z else f t) ∧ w.grownBy w' (some b) := by
  obtain ⟨D, ho, ⟨l, rfl⟩, hf⟩ := h
  have hk := keyOf_string_mk (P := Tryz.prog) Tryz.underlying9 hs
  obtain ⟨w', hrun, ho', hg⟩ := ho.update strKeyed Tryz.underlying134 hn hk (show heldElem z = some (.held z, []) from rfl)
  refine ⟨w', hrun, ⟨_, ho', ⟨_, rfl⟩, fun t zd => ?_⟩, hg⟩
  by_cases ht : t = s.data.toList
  · subst ht
    simp only [if_pos]
    exact atKey_put_same ⟨_, rfl⟩ (strKeyed.key hk) _ _
  · simp only [if_neg ht]
    rw [atKey_put_other (by intro e; injection e with e; exact ht e)]
    exact hf t zd
end
/-- A map whose values are slices of numbers: what it holds, as lists. -/
structure KI (w : World) (b n : Nat) (f : List UInt8 → Option (List Int)) : Prop where
  ex : ∃ F : List UInt8 → Option Value, KV w b n F ∧ ∀ l, match f l with | none => F l = none | some zs => ∃ A c, F l = some (.slice A zs.length c) ∧ SL w 0 A c zs
theorem KI.ext {w w' : World} {b n : Nat} {f : List UInt8 → Option (List Int)} (h : KI w b n f) (hx : Ext w w') : KI w' b n f := by
  obtain ⟨F, hk, hf⟩ := h.ex
  refine ⟨F, hk.ext hx, fun l => ?_⟩
  have := hf l
  cases hfl : f l with
  | none => rw [hfl] at this; exact this
  | some zs => rw [hfl] at this; obtain ⟨A, c, h1, h2⟩ := this; exact ⟨A, c, h1, h2.ext hx⟩
theorem KI.made (w : World) : KI (w.alloc (.map #[] 0)) w.heap.size 0 (fun _ => none) := ⟨⟨_, KV.made w, fun _ => rfl⟩⟩
/-- What a look answers. -/
theorem KI.look {w : World} {b n : Nat} {f : List UInt8 → Option (List Int)} (h : KI w b n f) (s : ByteArray) (hs : s.size ≤ maxLen) :
    ∃ A c, (Instr.lookup 134 (.map (some b)) (.string s) true).run Tryz.prog w = .ok (.tuple #[.slice A ((f s.data.toList).getD []).length c, .bool (f s.data.toList).isSome]) w ∧
      (Instr.lookup 134 (.map (some b)) (.string s) false).run Tryz.prog w = .ok (.slice A ((f s.data.toList).getD []).length c) w ∧ SL w 0 A c ((f s.data.toList).getD []) := by
  obtain ⟨F, hk, hf⟩ := h.ex
  have h1 := hk.look s hs
  have h2 := hk.look1 s hs
  have h3 := hf s.data.toList
  cases hfl : f s.data.toList with
  | none =>
    rw [hfl] at h3
    simp only at h3
    rw [h3] at h1 h2
    exact ⟨none, 0, h1, h2, SL.nil _ _⟩
  | some zs =>
    rw [hfl] at h3
    obtain ⟨A, c, h4, h5⟩ := h3
    rw [h4] at h1 h2
    exact ⟨A, c, h1, h2, h5⟩
set_option maxRecDepth 100000 in
theorem KI.put {w : World} {b n : Nat} {f : List UInt8 → Option (List Int)} (h : KI w b n f) (s : ByteArray) (hs : s.size ≤ maxLen) (A : Option Addr) (c : Nat) (zs : List Int) (hz : SL w 0 A c zs) (hn : n < maxLen) :
    ∃ w', (Instr.mapUpdate 134 (.map (some b)) (.string s) (.slice A zs.length c)).run Tryz.prog w = .ok () w' ∧ KI w' b (n + 1) (fun t => if t = s.data.toList then some zs else f t) ∧ w.grownBy w' (some b) := by
  obtain ⟨F, hk, hf⟩ := h.ex
  obtain ⟨w', hrun, hk', hg⟩ := hk.put s hs (.slice A zs.length c) hn
  refine ⟨w', hrun, ⟨⟨_, hk', fun l => ?_⟩⟩, hg⟩
  -- the block of a map is not one of cells
  have keep : ∀ (B : Option Addr) (d : Nat) (ys : List Int), SL w 0 B d ys → SL w' 0 B d ys := fun B d ys hy => by
    have hb : ∀ k cs t fr, w.heap[k]? = some (.cells cs t fr) → k ≠ b := fun k cs t fr hkc e => by
      subst e
      obtain ⟨D, ⟨es, clock, hb, _⟩, _⟩ := hk
      rw [hkc] at hb; cases hb
    refine ⟨World.ownsRow.kept hy.own hg ?_, ?_, hy.cap⟩
    · cases hu : (Value.slice B ys.length d).ownBlock with
      | none => exact .inl rfl
      | some k =>
        refine .inr fun e => ?_
        obtain rfl : k = b := Option.some.inj e
        obtain ⟨cur, hc⟩ := own_is hy.own hu
        exact hb k _ _ _ hc rfl
    · refine ⟨hy.ri.1, hy.ri.2.1, fun hp => ?_⟩
      obtain ⟨g, off, rfl, hlt, hc⟩ := hy.ri.2.2 hp
      refine ⟨g, off, rfl, Nat.lt_of_lt_of_le hlt hg.size, fun k hk9 => ?_⟩
      have hgb : g ≠ b := fun e => by
        subst e
        have := hc 0 hp
        obtain ⟨D, ⟨es, clock, hb9, _⟩, _⟩ := hk
        simp [World.cell?, hb9] at this
      rw [World.cell?_of_block (w := w) (a := ⟨g, off + k, none⟩) (hg.block g hlt (fun e => hgb (Option.some.inj e)))]
      exact hc k hk9
  by_cases hl : l = s.data.toList
  · simp only [if_pos hl]
    exact ⟨A, c, rfl, keep A c zs hz⟩
  · simp only [if_neg hl]
    have := hf l
    cases hfl : f l with
    | none => rw [hfl] at this; exact this
    | some ys => rw [hfl] at this; obtain ⟨B, d, h1, h2⟩ := this; exact ⟨B, d, h1, keep B d ys h2⟩
end Go.Proofs.YtccdnieoaejgdaaGreatDoor
namespace Go.Proofs.YtccdnieoaejgdaaGreatDoor
open Go.RowKit

/-- Where rules lie. -/
structure RuA where
  pa : Option Addr
  pc : Nat
  ea : Option Addr
  ec : Nat
  ba : Option Addr
  bc : Nat
def RU.val (r : RU) (a : RuA) : Value := .agg #[.slice a.pa r.pats.length a.pc, .slice a.ea r.excs.length a.ec, .slice a.ba r.bars.length a.bc, .int .i64 r.left, .int .i64 r.right]
/-- Rules in memory. -/
structure RuR (w : World) (a : RuA) (r : RU) : Prop where
  pats : RS w a.pa r.pats.length r.pats
  excs : RS w a.ea r.excs.length r.excs
  bars : RS w a.ba r.bars.length r.bars
  left : I64 r.left
  right : I64 r.right
theorem RuR.ext {w w' : World} {a : RuA} {r : RU} (h : RuR w a r) (hx : Ext w w') : RuR w' a r := ⟨h.pats.ext hx, h.excs.ext hx, h.bars.ext hx, h.left, h.right⟩
/-- A slice of pointers to patterns. -/
structure PaR (w : World) (A : Option Addr) (ps : List Pat) : Prop where
  big : ps.length ≤ 9223372036854775807
  at_ : 0 < ps.length → ∃ b off, A = some ⟨b, off, none⟩ ∧ b < w.heap.size ∧ ∀ k, k < ps.length → ∃ p, w.cell? ⟨b, off + k, none⟩ = some (.pointer (some ⟨p, 0, none⟩)) ∧ PatR w 0 p (ps.getD k Pat.zero)
theorem PaR.ext {w w' : World} {A : Option Addr} {ps : List Pat} (h : PaR w A ps) (hx : Ext w w') : PaR w' A ps :=
  ⟨h.big, fun hp => let ⟨b, off, h1, h2, h3⟩ := h.at_ hp; ⟨b, off, h1, Nat.lt_of_lt_of_le h2 hx.size, fun k hk => let ⟨p, h4, h5⟩ := h3 k hk; ⟨p, (hx.cell (p := ⟨b, off + k, none⟩) h2).trans h4, h5.ext hx⟩⟩⟩
/-- A ruler in memory: of right rules. -/
structure RlR (w : World) (rb : Nat) (r : RU) (a : RuA) (PA : Option Addr) (pc me mb ne nb : Nat) : Prop where
  blk : Blk w rb 136 #[.slice a.pa r.pats.length a.pc, .slice a.ea r.excs.length a.ec, .slice a.ba r.bars.length a.bc, .int .i64 r.left, .int .i64 r.right, .slice PA r.pats.length pc, .map (some me), .map (some mb)]
  pats : PaR w PA (patsOf r)
  exc : KI w me ne (fun l => excLook r l)
  bar : KI w mb nb (fun l => mkLook false 124 r.bars r.bars.length l)
  ok : (ruleE r).2 = 0
theorem RlR.ext {w w' : World} {rb pc me mb ne nb : Nat} {r : RU} {a : RuA} {PA : Option Addr} (h : RlR w rb r a PA pc me mb ne nb) (hx : Ext w w') : RlR w' rb r a PA pc me mb ne nb :=
  ⟨h.blk.ext hx, h.pats.ext hx, h.exc.ext hx, h.bar.ext hx, h.ok⟩
theorem patBad_none {l : List ByteArray} : ∀ {n : Nat}, patBad l n = none → ∀ k, k < n → ∃ p, patOf (l.getD k ByteArray.empty).data.toList = some p
  | n + 1, h, k, hk => by
    rw [patBad] at h
    cases hb : patBad l n with
    | some j => rw [hb] at h; cases h
    | none =>
      rw [hb] at h
      simp only at h
      by_cases hkn : k < n
      · exact patBad_none hb k hkn
      · obtain rfl : k = n := by omega
        cases hp : patOf (l.getD k ByteArray.empty).data.toList with
        | none => rw [hp] at h; cases h
        | some p => exact ⟨p, rfl⟩
/-- What right rules are. -/
structure RightU (r : RU) : Prop where
  np : r.pats.length ≤ 60
  pat : patBad r.pats r.pats.length = none
  exc : (mkChk true 45 r.excs).2 = 0
  bar : (mkChk false 124 r.bars).2 = 0
  left : 1 ≤ r.left ∧ r.left ≤ 10
  right : 1 ≤ r.right ∧ r.right ≤ 10
theorem RightU.of {r : RU} (h : (ruleE r).2 = 0) : RightU r := by
  unfold ruleE at h
  split at h
  · cases h
  · rename_i h1
    split at h
    · cases h
    · rename_i h2
      split at h
      · rename_i h3; exact absurd h h3
      · rename_i h3
        split at h
        · rename_i h4; exact absurd h h4
        · rename_i h4
          split at h
          · cases h
          · rename_i h5
            exact ⟨by omega, h2, by simpa using h3, by simpa using h4, by omega, by omega⟩
theorem RightU.to {r : RU} (h : RightU r) : ruleE r = (0, 0) := by
  unfold ruleE
  rw [if_neg (by have := h.np; omega), h.pat]
  simp only
  rw [if_neg (by rw [h.exc]; simp), if_neg (by rw [h.bar]; simp), if_neg (by have := h.left; have := h.right; omega)]
theorem patsOf_len (r : RU) : (patsOf r).length = r.pats.length := by unfold patsOf; simp
theorem patsOf_at {r : RU} {k : Nat} (hk : k < r.pats.length) : (patsOf r).getD k Pat.zero = (patOf (r.pats.getD k ByteArray.empty).data.toList).getD Pat.zero := by
  unfold patsOf
  rw [List.getD_eq_getElem?_getD, List.getElem?_map, List.getElem?_eq_getElem hk, List.getD_eq_getElem?_getD, List.getElem?_eq_getElem hk]; rfl
theorem RightU.patOk {r : RU} (h : RightU r) {k : Nat} (hk : k < r.pats.length) : ((patsOf r).getD k Pat.zero).Ok := by
  rw [patsOf_at hk]
  obtain ⟨p, hp⟩ := patBad_none h.pat k hk
  rw [hp]
  exact patOf_ok hp
/-- The levels of all places by the first k patterns; the first i of them by one more. -/
def lvK (ps : List Pat) (w : List UInt8) (k : Nat) : List Int := (List.range (w.length + 1)).map fun i => lvBy ps w k i
def lvKI (ps : List Pat) (w : List UInt8) (k j : Nat) : List Int := (List.range (w.length + 1)).map fun i => if i < j then lvBy ps w (k + 1) i else lvBy ps w k i
theorem lvKI_zero (ps : List Pat) (w : List UInt8) (k : Nat) : lvKI ps w k 0 = lvK ps w k := by
  unfold lvKI lvK
  apply List.map_congr_left
  intro i _; rw [if_neg (by omega)]
theorem lvKI_end (ps : List Pat) (w : List UInt8) (k : Nat) : lvKI ps w k (w.length + 1) = lvK ps w (k + 1) := by
  unfold lvKI lvK
  apply List.map_congr_left
  intro i hi; rw [if_pos (List.mem_range.1 hi)]
theorem lvKI_len (ps : List Pat) (w : List UInt8) (k j : Nat) : (lvKI ps w k j).length = w.length + 1 := by unfold lvKI; simp
theorem lvKI_at (ps : List Pat) (w : List UInt8) (k j : Nat) (h : j ≤ w.length) : (lvKI ps w k j).getD j 0 = lvBy ps w k j := by
  unfold lvKI
  rw [List.getD_eq_getElem?_getD, List.getElem?_map, List.getElem?_range (by omega)]
  simp only [Option.map_some, Option.getD_some]
  rw [if_neg (by omega)]
theorem lvKI_next (ps : List Pat) (w : List UInt8) (k j : Nat) : lvKI ps w k (j + 1) = (lvKI ps w k j).set j (max (lvBy ps w k j) (lvIn (ps.getD k Pat.zero) w j)) := by
  apply List.ext_getElem?
  intro i
  by_cases hi : i < w.length + 1
  · rw [List.getElem?_set]
    by_cases h1 : j = i
    · subst h1
      rw [if_pos rfl, if_pos (c := j < _) (by rw [lvKI_len]; exact hi)]
      unfold lvKI
      rw [List.getElem?_map, List.getElem?_range hi]
      simp only [Option.map_some]
      rw [if_pos (by omega)]; rfl
    · rw [if_neg h1]
      unfold lvKI
      rw [List.getElem?_map, List.getElem?_map, List.getElem?_range hi]
      simp only [Option.map_some]
      by_cases h2 : i < j
      · rw [if_pos (by omega), if_pos h2]
      · rw [if_neg (by omega), if_neg h2]
  · rw [List.getElem?_eq_none (by rw [lvKI_len]; omega), List.getElem?_eq_none (by rw [List.length_set, lvKI_len]; omega)]
/-- The levels of a word, as a list. -/
def lvList (r : RU) (w : List UInt8) : List Int := lvK (patsOf r) (low w) r.pats.length
theorem lvListIn_at (q : Pat) (l : List UInt8) {j : Nat} (h : j ≤ l.length) : (lvListIn q l).getD j 0 = lvIn q l j := by
  unfold lvListIn
  rw [List.getD_eq_getElem?_getD, List.getElem?_map, List.getElem?_range (by omega)]; rfl
theorem lvListIn_len (q : Pat) (l : List UInt8) : (lvListIn q l).length = l.length + 1 := by unfold lvListIn; simp
theorem SL.far_ {w : World} {base c pb : Nat} {A : Option Addr} {zs : List Int} (h : SL w base A c zs) (hb : pb + 1 ≤ base) (hz : zs.length ≤ 1000000) (i : Nat) (y : Value) : SL (w.setCell ⟨pb, i, none⟩ y) base A c zs := by
  refine SL.of_own ?_ hz
  refine World.ownsRow.kept (row := some pb) h.own ⟨rfl, rfl, rfl, by simp [World.setCell], fun k _ hn => Below.heap_setCell w ⟨pb, i, none⟩ y k (fun e => hn (by rw [e]))⟩ ?_
  cases hu : (Value.slice A zs.length c).ownBlock with
  | none => exact .inl rfl
  | some g => exact .inr fun e => by injection e with e; have := (World.ownsRow.lt h.own g hu).1; omega
theorem SL.at_ {w : World} {base c g : Nat} {zs : List Int} (h : SL w base (some ⟨g, 0, none⟩) c zs) {k : Nat} (hk : k < zs.length) : w.cell? ⟨g, k, none⟩ = some (.int .i64 (zs.getD k 0)) ∧ w.frozen? ⟨g, k, none⟩ = false ∧ g < w.heap.size := by
  refine ⟨?_, World.ownsRow.frozenAt h.own k, (World.ownsRow.lt h.own g rfl).2⟩
  rw [World.ownsRow.cellAt h.own k (by omega), List.getElem?_map, List.getElem?_eq_getElem hk, List.getD_eq_getElem?_getD, List.getElem?_eq_getElem hk]; rfl
theorem SL.put_ {w : World} {base c g : Nat} {zs : List Int} (h : SL w base (some ⟨g, 0, none⟩) c zs) (hz : zs.length ≤ 1000000) (k : Nat) (z : Int) : SL (w.setCell ⟨g, k, none⟩ (.int .i64 z)) base (some ⟨g, 0, none⟩) c (zs.set k z) := by
  refine SL.of_own ?_ (by rw [List.length_set]; exact hz)
  unfold Own
  rw [List.length_set, List.map_set]
  exact (World.ownsRow.stored h.own k (.int .i64 z)).1
set_option maxRecDepth 100000 in
set_option maxHeartbeats 8000000 in
theorem levels_any (r : RU) (a : RuA) (PA : Option Addr) (rb pc me mb ne nb : Nat) (s : ByteArray) (w : World) (hr : RlR w rb r a PA pc me mb ne nb) (hs : s.size ≤ 100) :
    Calls Tryz.prog 78 #[.pointer (some ⟨rb, 0, none⟩), .string s] w (RetS (lvList r s.data.toList) w) := by
  have hR := RightU.of hr.ok
  have HR := Lib.hid hr
  have HRU := Lib.hid hR
  have CS := Lib.hid fun W => small_any s W (by omega)
  have HLL : Hid ((low s.data.toList).length = s.size) := Lib.hid (by rw [low_len]; simp)
  have HE : Hid (lvList r s.data.toList = lvK (patsOf r) (low s.data.toList) r.pats.length) := Lib.hid rfl
  generalize lvList r s.data.toList = ll at *
  generalize hlw : low s.data.toList = lw at *
  clear hlw
  change Hid (∀ W, Calls Tryz.prog 84 #[.string s] W (Ret (.string (strL lw)) W)) at CS
  have hz : (strL lw).size = s.size := by rw [strL_size, HLL.out]
  have HZ := Lib.hid hz
  have CI := Lib.hid fun W p q (hq : Pat.Ok q) A c hb hl => in_any q p (strL lw) W hq (by rw [hz]; exact hs) A c hb hl
  rw [strL_list] at CI
  have hs1 : (s.size : Int) ≤ 100 := by omega
  have u1 : IntKind.i64.wrap ((s.size : Int) + 1) = (s.size : Int) + 1 := IntWalk.i64_in _ (by omega)
  have hmk := run_make_ints (s.size + 1) (by omega)
  simp only [Int.natCast_add, Int.natCast_one] at hmk
  have hnp : r.pats.length ≤ 60 := hR.np
  clear hr hR
  go_enter Tryz.func78, Tryz.ntmps78
  go_upto_region 3 with (first | (go_at_call 84; refine Calls.mono (CS.out _) ?_; rintro e w1 ⟨rfl, hx⟩; have HX1 := Lib.hid hx; clear hx))
  clear hmk
  have HO : Hid (SL (w1.alloc (.cells (Array.replicate (s.size + 1) (.int .i64 0)) 3)) w1.heap.size (some ⟨w1.heap.size, 0, none⟩) (s.size + 1) (lvK (patsOf r) lw 0)) := Lib.hid (by
    have hz : lvK (patsOf r) lw 0 = List.replicate (s.size + 1) 0 := by
      unfold lvK lvBy
      rw [List.eq_replicate_iff, HLL.out]
      exact ⟨by simp, by simp⟩
    have h := World.ownsRow_lit (e := 3) (size := 1) (base := w1.heap.size) w1 (Array.replicate (s.size + 1) (.int .i64 0)) (s.size + 1) (Nat.le_refl _) (by unfold maxLen; omega) (by simp)
    rw [hz]
    refine SL.of_own ?_ (by simp; omega)
    unfold Own
    simpa using h)
  have HX2 : Hid (Ext w (w1.alloc (.cells (Array.replicate (s.size + 1) (.int .i64 0)) 3))) := Lib.hid (HX1.out.trans (by repeat (first | exact Ext.refl _ | assumption | refine Ext.alloc ?_ _ | refine Ext.drew ?_ | refine Ext.drewN ?_ _ | (refine Ext.setCell ?_ (by simp <;> omega) _) | refine Ext.trans ?_ (by assumption))))
  have HG : Hid (w.heap.size ≤ w1.heap.size) := Lib.hid HX1.out.size
  generalize (w1.alloc (.cells (Array.replicate (s.size + 1) (.int .i64 0)) 3)) = w2 at *
  generalize w1.heap.size = g at *
  obtain ⟨hb, hp⟩ : Blk w2 rb _ _ ∧ PaR w2 PA (patsOf r) := ⟨(HR.out.ext HX2.out).blk, (HR.out.ext HX2.out).pats⟩
  have k5 := hb.cell 5 _ rfl
  have kl := hb.lt
  clear hb hp
  go_upto_region 4 with fail
  have hnp2 : r.pats.length ≤ 9223372036854775807 := by omega
  have HE2 := Lib.hid (Ext.refl w2)
  go_loopw [21, 7, 8, 9] (fun v21 _ _ _ wr => ∃ k : Nat, k ≤ r.pats.length ∧ v21 = .int .i64 (k : Int) ∧ Hid (SL wr g (some ⟨g, 0, none⟩) (s.size + 1) (lvK (patsOf r) lw k)) ∧ Hid (Ext w wr)) (fun v21 _ _ _ _ => r.pats.length - (intOf v21).toNat)
  case atStart => exact ⟨0, Nat.zero_le _, rfl, HO, HX2⟩
  case round =>
    obtain ⟨k, hk, rfl, HK, HX⟩ := hrel
    by_cases hlt : k < r.pats.length
    case pos =>
      have ik : (k : Int) < (r.pats.length : Int) := by omega
      obtain ⟨pb, po, hPA, hpl, hpc⟩ := (HR.out.ext HX.out).pats.at_ (by rw [patsOf_len]; omega)
      subst hPA
      obtain ⟨p, c0, hp⟩ := hpc k (by rw [patsOf_len]; omega)
      have hok := HRU.out.patOk hlt
      obtain ⟨qA, qc, hqb, hql⟩ := hp.ex
      have HQB := Lib.hid hqb; have HQL := Lib.hid hql; have HOK := Lib.hid hok
      have HPK := Lib.hid (lvKI_next (patsOf r) lw k)
      clear hpc hp hok hqb hql
      generalize (patsOf r).getD k Pat.zero = q at *
      -- BEGIN A
      have HLN : Hid ((lvListIn q lw).length = s.size + 1) := Lib.hid (by rw [lvListIn_len, HLL.out])
      have hgw : g < wr.heap.size := (World.ownsRow.lt HK.out.own g rfl).2
      have HGW := Lib.hid hgw
      clear hgw
      go_upto_region 7 with (first | (go_at_call 83; refine Calls.mono (CI.out _ p q HOK.out qA qc HQB.out HQL.out.ri) ?_; rintro e w3 ⟨A5, c5, he, hsl, hx⟩; rw [HLN.out] at he; subst he; have HL5 := Lib.hid hsl; have HX3 := Lib.hid hx; clear hsl hx))
      have HK0 : Hid (SL w3 g (some ⟨g, 0, none⟩) (s.size + 1) (lvKI (patsOf r) lw k 0)) := Lib.hid (by rw [lvKI_zero]; exact HK.out.ext HX3.out)
      have HXX := Lib.hid (HX.out.trans HX3.out)
      have HL6 : Hid (SL w3 wr.heap.size A5 c5 (lvListIn q lw)) := HL5
      clear HL5
      have hsz : s.size + 1 ≤ 9223372036854775807 := by omega
      go_loopw [29, 8, 9] (fun v29 _ _ wr2 => ∃ j : Nat, j ≤ s.size + 1 ∧ v29 = .int .i64 (j : Int) ∧ Hid (SL wr2 g (some ⟨g, 0, none⟩) (s.size + 1) (lvKI (patsOf r) lw k j)) ∧ Hid (Ext w wr2) ∧ Hid (SL wr2 (g + 1) A5 c5 (lvListIn q lw))) (fun v29 _ _ _ => s.size + 1 - (intOf v29).toNat)
      case atStart => exact ⟨0, Nat.zero_le _, rfl, HK0, HXX, Lib.hid (HL6.out.mono (by have := HGW.out; omega))⟩
      case round =>
        clear HK0 HXX HL6
        obtain ⟨j, hj, rfl, HJ, HXJ, HLJ⟩ := hrel
        have HJL : Hid ((lvKI (patsOf r) lw k j).length = s.size + 1) := Lib.hid (by rw [lvKI_len, HLL.out])
        by_cases hjs : j < s.size + 1
        case pos =>
          have ij : (j : Int) < (s.size : Int) + 1 := by omega
          obtain ⟨lb, lo, hA5, hlb, hlc⟩ := HLJ.out.ri.2.2 (by rw [HLN.out]; omega)
          have c5' := hlc j (by rw [HLN.out]; exact hjs)
          obtain ⟨x0, xf, xl⟩ := HJ.out.at_ (k := j) (by rw [HJL.out]; exact hjs)
          rw [lvKI_at _ _ _ _ (by rw [HLL.out]; omega)] at x0
          rw [lvListIn_at _ _ (by rw [HLL.out]; omega)] at c5'
          have HN : Hid (SL (wr.setCell ⟨g, j, none⟩ (.int .i64 (max (lvBy (patsOf r) lw k j) (lvIn q lw j)))) g (some ⟨g, 0, none⟩) (s.size + 1) (lvKI (patsOf r) lw k (j + 1))) := Lib.hid (by
            rw [HPK.out j]; exact HJ.out.put_ (by rw [HJL.out]; omega) j _)
          have HLN2 := Lib.hid (HLJ.out.far_ (pb := g) (Nat.le_refl _) (by rw [HLN.out]; omega) j (.int .i64 (max (lvBy (patsOf r) lw k j) (lvIn q lw j))))
          have HXN := Lib.hid (HXJ.out.setCell (p := ⟨g, j, none⟩) HG.out (.int .i64 (max (lvBy (patsOf r) lw k j) (lvIn q lw j))))
          subst hA5
          clear hlc
          generalize lvBy (patsOf r) lw k j = x at *
          generalize lvIn q lw j = y at *
          go_wp2
          go_roundw
          case rel => exact ⟨j + 1, by omega, by go_num, HN, HXN, HLN2⟩
          case measure => simp [intOf]; omega
        case neg =>
          obtain rfl : j = s.size + 1 := by omega
          have ij : ¬ ((s.size : Int) + 1) < (s.size : Int) + 1 := by omega
          have HN : Hid (SL wr g (some ⟨g, 0, none⟩) (s.size + 1) (lvK (patsOf r) lw (k + 1))) := Lib.hid (by
            have h := HJ.out
            rw [← HLL.out, lvKI_end] at h
            rw [← HLL.out]; exact h)
          go_wp2
          go_roundw
          case rel => exact ⟨k + 1, by omega, by go_num, HN, HXJ⟩
          case measure => simp [intOf]; omega
      -- END A
    case neg =>
      obtain rfl : k = r.pats.length := by omega
      have ik : ¬ (r.pats.length : Int) < (r.pats.length : Int) := by omega
      go_wp2
      go_ret
      have hl9 : ll.length = s.size + 1 := by rw [HE.out]; unfold lvK; simp; exact HLL.out
      refine ⟨some ⟨g, 0, none⟩, s.size + 1, by rw [hl9]; rfl, ?_, HX.out⟩
      rw [HE.out]
      exact HK.out.mono HG.out
end Go.Proofs.YtccdnieoaejgdaaGreatDoor
namespace Go.Proofs.YtccdnieoaejgdaaGreatDoor
open Go.ChangeShapes Go.WideShapes Go.ChangeAt Go.RowKit Go.Joins Go.Deep

section
variable {H : Type} {enc : TypeId × Value → H} {P : Program} {w : World} {base : Nat} {spare : Nat → Bool} {held : Bool}
theorem array5 {α : Type} {cs : Array α} (h : cs.size = 5) : ∃ c0 c1 c2 c3 c4, cs = #[c0, c1, c2, c3, c4] := by
  obtain ⟨l⟩ := cs
  match l, h with
  | [c0, c1, c2, c3, c4], _ => exact ⟨c0, c1, c2, c3, c4, rfl⟩
theorem open_agg5 {r : Reach} {b0 : Nat} {t : TypeId} {f0 f1 f2 f3 f4 : Field} {v : Value} {d : DataW H} {p : List MemPlace} (hs : P.underlying t = some (.struct #[f0, f1, f2, f3, f4])) (hone : oneCellFields P #[f0, f1, f2, f3, f4] = true) (hC : P.cellsOf t = 5)
    (hv : Value.okWide P w r b0 t v) (h : DataW.Trod enc P w base spare held t v d p) :
    ∃ (v0 v1 v2 v3 v4 : Value) (y0 y1 y2 y3 y4 : DataW H × List MemPlace) (n : Nat), v = .agg #[v0, v1, v2, v3, v4] ∧
      DataW.trod enc P w base spare held n f0.type [v0] = some y0 ∧ DataW.trod enc P w base spare held n f1.type [v1] = some y1 ∧ DataW.trod enc P w base spare held n f2.type [v2] = some y2 ∧ DataW.trod enc P w base spare held n f3.type [v3] = some y3 ∧ DataW.trod enc P w base spare held n f4.type [v4] = some y4 := by
  obtain ⟨cs, rfl, hsz⟩ := okWide_struct hs hv
  obtain ⟨c0, c1, c2, c3, c4, rfl⟩ := array5 (hsz.trans hC)
  obtain ⟨fuel, hf⟩ := h
  obtain ⟨xs, n, _, _, _, hlen, hx⟩ := DataW.trod_struct hs hf
  match xs, hlen, hx with
  | [y0, y1, y2, y3, y4], _, hx =>
    obtain ⟨o0, k0⟩ := hone_of hone 0 f0 rfl
    obtain ⟨o1, k1⟩ := hone_of hone 1 f1 rfl
    obtain ⟨o2, k2⟩ := hone_of hone 2 f2 rfl
    obtain ⟨o3, k3⟩ := hone_of hone 3 f3 rfl
    obtain ⟨o4, k4⟩ := hone_of hone 4 f4 rfl
    exact ⟨c0, c1, c2, c3, c4, y0, y1, y2, y3, y4, n, rfl, by simpa [Value.cells, o0, k0] using hx 0 f0 rfl, by simpa [Value.cells, o1, k1] using hx 1 f1 rfl, by simpa [Value.cells, o2, k2] using hx 2 f2 rfl, by simpa [Value.cells, o3, k3] using hx 3 f3 rfl, by simpa [Value.cells, o4, k4] using hx 4 f4 rfl⟩
end
section
variable {H : Type} {enc : TypeId × Value → H} {w : World} {held : Bool} {b0 : Nat} {d : DataW H} {p : List MemPlace} {v : Value} {r : Reach}
/-- A slice of texts that came in, by its cells. -/
theorem open_RS_cells {fuel : Nat} {cs : List Value} {x : DataW H × List MemPlace} (h : DataW.trod enc Tryz.prog w 0 (fun _ => true) held fuel 22 cs = some x) :
    ∃ A c ss, cs = [.slice A ss.length c] ∧ RS w A ss.length ss ∧ ss.length ≤ c ∧ c ≤ maxLen ∧ ∀ k, k < ss.length → (ss.getD k ByteArray.empty).size ≤ maxLen := by
  rcases open_strs Tryz.underlying22 Tryz.underlying9 (by kernel_rfl) h with ⟨hcs, _⟩ | ⟨a, l, c, m, Sx, hcs, _, hl, hm, hmm, _, hcell⟩
  · exact ⟨none, 0, [], hcs, ⟨rfl, by simp, fun h => absurd h (by simp)⟩, Nat.le_refl _, by unfold maxLen; omega, fun k hk => absurd hk (by simp)⟩
  · simp only [if_true] at hmm
    have hlen : ((List.range l).map Sx).length = l := by simp
    have hat : ∀ k, k < l → ((List.range l).map Sx).getD k ByteArray.empty = Sx k := fun k hk => by
      rw [List.getD_eq_getElem?_getD, List.getElem?_map, List.getElem?_range hk]; rfl
    refine ⟨some a, c, (List.range l).map Sx, by rw [hlen]; exact hcs, ⟨rfl, by rw [hlen]; unfold maxLen at hm; omega, fun hp => ?_⟩, by omega, hm, fun k hk => ?_⟩
    · rw [hlen] at hp
      have h0 := (hcell 0 (by omega)).1
      refine ⟨a.block, a.off, by rw [spot_none h0], cell_lt (cell_add h0), fun k hk => ?_⟩
      rw [hlen] at hk
      rw [hat k hk]
      exact cell_add (hcell k (by omega)).1
    · rw [hlen] at hk
      rw [hat k hk]; exact (hcell k (by omega)).2
set_option maxRecDepth 100000 in
/-- Rules that came in. -/
theorem open_RU (hv : Value.okWide Tryz.prog w r b0 24 v) (h : DataW.Trod enc Tryz.prog w 0 (fun _ => true) held 24 v d p) :
    ∃ (r : RU) (a : RuA), v = r.val a ∧ RuR w a r := by
  obtain ⟨v0, v1, v2, v3, v4, y0, y1, y2, y3, y4, n, rfl, t0, t1, t2, t3, t4⟩ := open_agg5 Tryz.underlying24 (by kernel_rfl) (by kernel_rfl) hv h
  obtain ⟨A, c, xs, e0, hr0, _⟩ := open_RS_cells t0
  obtain ⟨B, d, ys, e1, hr1, _⟩ := open_RS_cells t1
  obtain ⟨D, e, ds, e2, hr2, _⟩ := open_RS_cells t2
  obtain ⟨n3, e3, _, z3⟩ := DataW.trod_int Tryz.underlying3 (show DataW.trod enc Tryz.prog w 0 (fun _ => true) held n 3 [v3] = some y3 from t3)
  obtain ⟨n4, e4, _, z4⟩ := DataW.trod_int Tryz.underlying3 (show DataW.trod enc Tryz.prog w 0 (fun _ => true) held n 3 [v4] = some y4 from t4)
  simp only [List.cons.injEq, and_true] at e0 e1 e2 e3 e4
  subst e0 e1 e2 e3 e4
  exact ⟨⟨xs, ys, ds, n3, n4⟩, ⟨A, c, B, d, D, e⟩, rfl, ⟨hr0, hr1, hr2, wf_i64 z3, wf_i64 z4⟩⟩
end
end Go.Proofs.YtccdnieoaejgdaaGreatDoor
namespace Go.Proofs.YtccdnieoaejgdaaGreatDoor
open Go.RowKit

theorem decDigits_short : ∀ u : Nat, (Lib.decDigits u).length ≤ u + 1 := fun u => by
  induction u using Nat.strongRecOn with
  | ind u ih =>
    by_cases h : u < 10
    · rw [dc_lt h]; simp
    · rw [dc_ge (by omega), List.length_append]
      have := ih (u / 10) (by omega)
      simp; omega
theorem byte_app (m : Nat) (l : List UInt8) : (⟨#[48 + UInt8.ofNat (m % 10)]⟩ : ByteArray) ++ ⟨l.toArray⟩ = ⟨(UInt8.ofNat (48 + m % 10) :: l).toArray⟩ := by
  apply bytes_ext
  simp [ByteArray.data_append]
theorem byte_back (w : World) (m : Nat) (c : Nat) : (convert 157 9 (.slice (some ⟨w.heap.size, 0, none⟩) 1 c)).run Tryz.prog (w.alloc (.cells #[.int .u8 (48 + (m : Int) % 10)] 5)) = .ok (.string ⟨#[UInt8.ofNat (48 + m % 10)]⟩) (w.alloc (.cells #[.int .u8 (48 + (m : Int) % 10)] 5)) :=
  run_convert_bytes_back _ 157 9 5 ⟨w.heap.size, 0, none⟩ c [UInt8.ofNat (48 + m % 10)] Tryz.underlying157 Tryz.underlying5 Tryz.underlying9 fun j hj => by
    obtain rfl : j = 0 := by simpa using hj
    have h9 : (UInt8.ofNat (48 + m % 10)).toNat = 48 + m % 10 := by rw [UInt8.toNat_ofNat']; omega
    show (w.alloc _).cell? ⟨w.heap.size, 0, none⟩ = some (.int .u8 ((UInt8.ofNat (48 + m % 10)).toNat : Int))
    rw [h9, (Blk.new w 5 _).cell 0 _ rfl]
    simp
set_option maxRecDepth 100000 in
set_option maxHeartbeats 2000000 in
theorem decimal_any (n : Nat) (w : World) (h : n ≤ 1000000000000) : Calls Tryz.prog 105 #[.int .i64 (n : Int)] w (Ret (.string ⟨(Lib.itoa (n : Int)).toArray⟩) w) := by
  by_cases h0 : n = 0
  case pos =>
    subst h0
    have HV : Hid ((Lib.itoa ((0 : Nat) : Int)) = [48]) := Lib.hid (by rw [itoa_of_nat, dc_lt (by decide)]; rfl)
    generalize Lib.itoa ((0 : Nat) : Int) = R at *
    go_enter Tryz.func105, Tryz.ntmps105
    go_wp2
    go_ret
    exact Ret.mk' (by rw [HV.out]; rfl) (by repeat (first | exact Ext.refl _ | assumption | refine Ext.alloc ?_ _ | refine Ext.drew ?_ | refine Ext.drewN ?_ _ | (refine Ext.setCell ?_ (by simp <;> omega) _) | refine Ext.trans ?_ (by assumption)))
  case neg =>
  have HR := Lib.hid (decR_pos h0)
  have hn0 : ((n : Int) == 0) = false := by simpa using h0
  have hn1 : ¬ (n : Int) < 0 := by omega
  have hlR : (Lib.itoa (n : Int)).length ≤ 1000000000001 := by rw [itoa_of_nat]; have := decDigits_short n; omega
  have HLR := Lib.hid hlR; clear hlR
  generalize Lib.itoa (n : Int) = R at *
  go_enter Tryz.func105, Tryz.ntmps105
  go_wp2
  go_loopw [0, 3, 5] (fun x s _ wr => ∃ (m : Nat) (l : List UInt8), x = .int .i64 (m : Int) ∧ m ≤ 1000000000000 ∧ s = .string ⟨l.toArray⟩ ∧ Hid (decR m ++ l = R) ∧ Hid (Ext w wr)) (fun x _ _ _ => (intOf x).toNat)
  case atStart => exact ⟨n, [], rfl, h, rfl, Lib.hid (by rw [HR.out, List.append_nil]), Lib.hid (by repeat (first | exact Ext.refl _ | assumption | refine Ext.alloc ?_ _ | refine Ext.drew ?_ | refine Ext.drewN ?_ _ | (refine Ext.setCell ?_ (by simp <;> omega) _) | refine Ext.trans ?_ (by assumption)))⟩
  case round =>
    obtain ⟨m, l, rfl, hm, rfl, HL, HX⟩ := hrel
    by_cases hm0 : m = 0
    case pos =>
      subst hm0
      have hl := HL.out
      rw [decR_zero, List.nil_append] at hl
      subst hl
      have hl9 := HLR.out
      go_wp2
      go_ret
      exact Ret.mk' (by congr 1) HX.out
    case neg =>
      have hm1 : ((m : Int) != 0) = true := by simpa using hm0
      have HD := Lib.hid (decR_next hm0)
      have CS : Hid (∀ W, Calls Tryz.prog 136 #[.int .i64 ((m % 10 : Nat) : Int)] W (Same (.int .i64 ((m % 10 : Nat) : Int)) W)) := Lib.hid fun W => by
        have := size_any ((m % 10 : Nat) : Int) W (by omega)
        rwa [show max ((m % 10 : Nat) : Int) (-((m % 10 : Nat) : Int)) = ((m % 10 : Nat) : Int) by omega] at this
      have hl9 : l.length ≤ 1000000000001 := by have h1 := HL.out; have h2 := HLR.out; rw [← h1, List.length_append] at h2; omega
      have hcv := byte_back wr m 1
      go_wp2_with (first | (go_at_call 136; refine Calls.mono (CS.out _) ?_; rintro e w2 ⟨rfl, rfl⟩))
      go_roundw
      case rel => exact ⟨m / 10, UInt8.ofNat (48 + m % 10) :: l, by go_num, by omega, congrArg Value.string (byte_app m l), Lib.hid (by rw [← HL.out, HD.out, List.append_assoc]; rfl), Lib.hid (HX.out.trans (by repeat (first | exact Ext.refl _ | assumption | refine Ext.alloc ?_ _ | refine Ext.drew ?_ | refine Ext.drewN ?_ _ | (refine Ext.setCell ?_ (by simp <;> omega) _) | refine Ext.trans ?_ (by assumption))))⟩
      case measure => simp [intOf]; omega
end Go.Proofs.YtccdnieoaejgdaaGreatDoor
