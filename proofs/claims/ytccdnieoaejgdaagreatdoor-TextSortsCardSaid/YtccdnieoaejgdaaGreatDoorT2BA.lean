/-
  Walk: SortsOf.
  The fewest sorts of a text, in plain words: the tables, and the way through them. No program in sight.
  What lies there while the fewest sorts are found: the tables of numbers and of first sorts.
-/
import Derived.Test.YtccdnieoaejgdaaGreatDoorT2AZ
import Derived.Test.YtccdnieoaejgdaaGreatDoorT2AV
import Derived.Test.YtccdnieoaejgdaaGreatDoorT2AQ
set_option linter.unusedVariables false
set_option linter.unusedSimpArgs false
set_option linter.unusedSectionVars false
namespace Go.Proofs.YtccdnieoaejgdaaGreatDoor
open Go.RowKit Go.Lib

theorem openE_ok {f : FT} {r : RU} (h : openE f r = 0) : (chk f).2 = 0 ∧ (ruleE r).2 = 0 := by
  unfold openE at h
  by_cases h1 : (chk f).2 = 0
  · rw [if_neg (by simpa using h1)] at h; exact ⟨h1, h⟩
  · rw [if_pos h1] at h; exact absurd h h1
theorem wordE_ok {f : FT} {r : RU} {s : ByteArray} (h : wordE f r s = 0) : (chk f).2 = 0 ∧ (ruleE r).2 = 0 ∧ wordB s = true := by
  unfold wordE at h
  by_cases h1 : openE f r = 0
  · rw [if_neg (by simpa using h1)] at h
    split at h
    · rename_i hw; exact ⟨(openE_ok h1).1, (openE_ok h1).2, hw⟩
    · cases h
  · rw [if_pos h1] at h; exact absurd h h1
theorem wordB_size {s : ByteArray} (h : wordB s = true) : 1 ≤ s.size ∧ s.size ≤ 30 := by
  unfold wordB at h
  simp only [Bool.and_eq_true, decide_eq_true_eq] at h
  omega
/-- The sorts of a right fount: their kinds and the lengths of their texts. -/
theorem chk_text {f : FT} (h : (chk f).2 = 0) {k : Nat} (hk : k < f.sorts.length) : ((f.sorts.getD k TS.zero).kind = 1 ∧ (f.sorts.getD k TS.zero).text.size = 1) ∨ ((f.sorts.getD k TS.zero).kind = 2 ∧ 2 ≤ (f.sorts.getD k TS.zero).text.size ∧ (f.sorts.getD k TS.zero).text.size ≤ 4) ∨ ((f.sorts.getD k TS.zero).kind = 3 ∧ (f.sorts.getD k TS.zero).text.size = 0) := by
  obtain ⟨_, _, _, hc⟩ := chk_zero h
  obtain ⟨_, _, h3, _, h5⟩ := sort_zero (hc k hk)
  clear hc
  generalize f.sorts.getD k TS.zero = x at *
  unfold textErr at h5
  split at h5
  · cases h5
  · rename_i h6
    have h7 : printsB x.kind x.text = true := by simpa using h6
    unfold printsB printLo printHi at h7
    rw [Bool.and_eq_true, Bool.and_eq_true, decide_eq_true_eq, decide_eq_true_eq] at h7
    obtain ⟨⟨h8, h9⟩, _⟩ := h7
    by_cases k1 : x.kind = 1
    · rw [k1] at h8 h9; simp at h8 h9; exact .inl ⟨k1, by omega⟩
    · by_cases k2 : x.kind = 2
      · rw [k2] at h8 h9; simp at h8 h9; exact .inr (.inl ⟨k2, by omega, by omega⟩)
      · have k3 : x.kind = 3 := by omega
        rw [k3] at h8 h9; simp at h8 h9; exact .inr (.inr ⟨k3, by first | omega | simp [h9]⟩)
theorem chk_few {f : FT} (h : (chk f).2 = 0) : f.sorts.length ≤ 120 := (chk_zero h).2.2.1
def sortsV (f : FT) (r : RU) (s : ByteArray) : List Int := setV f r s (setOf f.sorts s.data.toList)
def sortsE (f : FT) (r : RU) (s : ByteArray) : Int := setE f r s (setOf f.sorts s.data.toList)
set_option maxHeartbeats 1000000 in
theorem SortsOf_any (f : FT) (A : Option Addr) (c : Nat) (r : RU) (a : RuA) (s : ByteArray) (w : World) (hf : FR w A c f) (hr : RuR w a r) (hs : ShortU r) (hz : s.size ≤ 1000000) :
    Calls Tryz.prog 26 #[f.val A c, r.val a, .string s] w (RetSE (sortsV f r s) (sortsE f r s) w) := by
  have HF := Lib.hid hf; have HR := Lib.hid hr
  have CS := Lib.hid fun W (h : FR W A c f) (k : RuR W a r) => settingS_any f A c r a s W h k hs hz (setOf f.sorts s.data.toList) (fun he W B d bz h1 h2 => by
    obtain ⟨e1, _, e3⟩ := wordE_ok he
    have h3 := wordB_size e3
    exact set_any f A c s B d bz W h1 (chk_few e1) (by omega) h2 (fun k hk => by rcases chk_text e1 hk with h | h | h <;> omega))
  clear hf hr hs
  unfold RU.val FT.val at *
  go_enter Tryz.func26, Tryz.ntmps26
  go_wp2_with (first | (go_at_call 72; refine Calls.mono (CS.out _ (HF.out.ext (by repeat (first | exact Ext.refl _ | assumption | refine Ext.alloc ?_ _ | refine Ext.drew ?_ | refine Ext.drewN ?_ _ | (refine Ext.setCell ?_ (by simp <;> omega) _) | refine Ext.trans ?_ (by assumption)))) (HR.out.ext (by repeat (first | exact Ext.refl _ | assumption | refine Ext.alloc ?_ _ | refine Ext.drew ?_ | refine Ext.drewN ?_ _ | (refine Ext.setCell ?_ (by simp <;> omega) _) | refine Ext.trans ?_ (by assumption))))) ?_; rintro e w1 ⟨A1, c1, rfl, h1, hx⟩; have HS1 := Lib.hid h1; have HX1 := Lib.hid (Ext.trans (a := w) (by repeat (first | exact Ext.refl _ | assumption | refine Ext.alloc ?_ _ | refine Ext.drew ?_ | refine Ext.drewN ?_ _ | (refine Ext.setCell ?_ (by simp <;> omega) _) | refine Ext.trans ?_ (by assumption))) hx); clear h1 hx))
  go_ret2
  exact ⟨A1, c1, rfl, HS1.out.mono (by simp; omega), HX1.out⟩
end Go.Proofs.YtccdnieoaejgdaaGreatDoor
namespace Go.Proofs.YtccdnieoaejgdaaGreatDoor

/-- The table of numbers, and that of first sorts, for n bytes: zeros ahead of what is known. -/
def nT (n : Nat) (M : List (Int × Int)) : List Int := List.replicate (n + 1 - M.length) 0 ++ M.map Prod.fst
def fT (n : Nat) (M : List (Int × Int)) : List Int := List.replicate (n + 1 - M.length) 0 ++ M.map Prod.snd
theorem nT_len {n : Nat} {M : List (Int × Int)} (h : M.length ≤ n + 1) : (nT n M).length = n + 1 := by unfold nT; simp; omega
theorem fT_len {n : Nat} {M : List (Int × Int)} (h : M.length ≤ n + 1) : (fT n M).length = n + 1 := by unfold fT; simp; omega
theorem nT_at {n : Nat} {M : List (Int × Int)} {i : Nat} (_h : M.length ≤ n + 1) (hi : n + 1 - M.length ≤ i) : (nT n M).getD i 0 = (M.getD (i - (n + 1 - M.length)) (0, 0)).1 := by
  unfold nT
  rw [List.getD_eq_getElem?_getD, List.getElem?_append_right (by simpa using hi), List.length_replicate, List.getElem?_map, List.getD_eq_getElem?_getD]
  cases M[i - (n + 1 - M.length)]? <;> rfl
theorem fT_at {n : Nat} {M : List (Int × Int)} {i : Nat} (_h : M.length ≤ n + 1) (hi : n + 1 - M.length ≤ i) : (fT n M).getD i 0 = (M.getD (i - (n + 1 - M.length)) (0, 0)).2 := by
  unfold fT
  rw [List.getD_eq_getElem?_getD, List.getElem?_append_right (by simpa using hi), List.length_replicate, List.getElem?_map, List.getD_eq_getElem?_getD]
  cases M[i - (n + 1 - M.length)]? <;> rfl
theorem nT_zero (n : Nat) : nT n [(0, 0)] = List.replicate (n + 1) 0 := by
  unfold nT; simp [List.replicate_succ']
theorem fT_zero (n : Nat) : fT n [(0, 0)] = List.replicate (n + 1) 0 := by
  unfold fT; simp [List.replicate_succ']
theorem rep_set (k : Nat) (z : Int) (l : List Int) : (List.replicate (k + 1) 0 ++ l).set k z = List.replicate k 0 ++ z :: l := by
  rw [List.replicate_succ', List.append_assoc, List.set_append_right _ _ (by simp)]
  simp
theorem nT_new {n : Nat} {L : List (Int × Int)} (h : L.length ≤ n) (z y : Int) : (nT n L).set (n - L.length) z = nT n ((z, y) :: L) := by
  unfold nT
  rw [show n + 1 - L.length = (n - L.length) + 1 by omega, rep_set, List.length_cons, show n + 1 - (L.length + 1) = n - L.length by omega]; rfl
theorem fT_new {n : Nat} {L : List (Int × Int)} (h : L.length ≤ n) (z : Int) : fT n L = fT n ((z, 0) :: L) := by
  unfold fT
  rw [List.length_cons, show n + 1 - (L.length + 1) = n - L.length by omega, show n + 1 - L.length = (n - L.length) + 1 by omega, List.replicate_succ', List.append_assoc]; rfl
theorem nT_put {n : Nat} {L : List (Int × Int)} (h : L.length ≤ n) (c : Int × Int) (z y : Int) : (nT n (c :: L)).set (n - L.length) z = nT n ((z, y) :: L) := by
  unfold nT
  rw [List.length_cons, List.length_cons, show n + 1 - (L.length + 1) = n - L.length by omega, List.set_append_right _ _ (by simp)]
  simp
theorem fT_put {n : Nat} {L : List (Int × Int)} (h : L.length ≤ n) (c : Int × Int) (z y : Int) : (fT n (c :: L)).set (n - L.length) y = fT n ((z, y) :: L) := by
  unfold fT
  rw [List.length_cons, List.length_cons, show n + 1 - (L.length + 1) = n - L.length by omega, List.set_append_right _ _ (by simp)]
  simp
/-- A place's entry in the whole table. -/
def fwAt (ss : List TS) (w : List UInt8) (bars : List Int) (a : Nat) : Int × Int := (fewTab ss w bars w.length).getD a (0, 0)
theorem fewTab_drop (ss : List TS) (w : List UInt8) (bars : List Int) : ∀ {j m : Nat}, j ≤ m → (fewTab ss w bars m).drop (m - j) = fewTab ss w bars j
  | j, 0, h => by rw [show j = 0 by omega]; rfl
  | j, m + 1, h => by
    by_cases hj : j = m + 1
    · subst hj; rw [Nat.sub_self, List.drop_zero]
    · rw [show m + 1 - j = (m - j) + 1 by omega]
      show (List.drop (m - j) (fewTab ss w bars m)) = _
      exact fewTab_drop ss w bars (by omega)
theorem fewTab_at (ss : List TS) (w : List UInt8) (bars : List Int) {j k : Nat} (hj : j ≤ w.length) (_hk : k ≤ j) : (fewTab ss w bars j).getD k (0, 0) = fwAt ss w bars (w.length - j + k) := by
  unfold fwAt
  rw [← fewTab_drop ss w bars hj, List.getD_eq_getElem?_getD, List.getElem?_drop, List.getD_eq_getElem?_getD]
theorem fwAt_end (ss : List TS) (w : List UInt8) (bars : List Int) : fwAt ss w bars w.length = (0, 0) := by
  have h := fewTab_at ss w bars (j := 0) (k := 0) (Nat.zero_le _) (Nat.le_refl _)
  rw [Nat.sub_zero, Nat.add_zero] at h
  rw [← h]; rfl
/-- What the entry of a place is: the least, of the first sorts' entries. -/
def fewOne (ss : List TS) (w : List UInt8) (bars : List Int) (a : Nat) (pre : List (BegT ss (w.drop a))) : Int × Int := fewL ss bars (fewTab ss w bars (w.length - (a + 1))) a pre
theorem fwAt_one (ss : List TS) (w : List UInt8) (bars : List Int) {a : Nat} (ha : a < w.length) : fwAt ss w bars a = fewOne ss w bars a (begTo ss (w.drop a) ss.length) := by
  have h := fewTab_at ss w bars (j := w.length - a) (k := 0) (by omega) (Nat.zero_le _)
  rw [Nat.add_zero, show w.length - (w.length - a) = a by omega] at h
  rw [← h]
  obtain ⟨m, hm⟩ : ∃ m, w.length - a = m + 1 := ⟨w.length - a - 1, by omega⟩
  have e2 : w.length - (m + 1) = a := by omega
  have e3 : w.length - (a + 1) = m := by omega
  unfold fewOne
  rw [hm, fewTab, e2, e3]; rfl
/-- What is known of an entry below 31: its sort, and the entry behind it. -/
def FwOk (ss : List TS) (w : List UInt8) (bars : List Int) (a : Nat) (c : Int × Int) : Prop :=
  (c.1 = 31 ∧ c.2 = 0) ∨ ∃ i : BegT ss (w.drop a), c.2 = (i.1 : Int) ∧ barIn bars a (txN ss i.1) = false ∧ c.1 = (fwAt ss w bars (a + txN ss i.1)).1 + 1 ∧ c.1 < 31
theorem fewS_ok {ss : List TS} {w : List UInt8} {bars : List Int} {a : Nat} (ha : a < w.length) (hs : ∀ i : BegT ss (w.drop a), 1 ≤ txN ss i.1) {c : Int × Int} (hc : FwOk ss w bars a c) (hc31 : c.1 ≤ 31) (i : BegT ss (w.drop a)) :
    FwOk ss w bars a (fewS ss bars (fewTab ss w bars (w.length - (a + 1))) a c i.1) ∧ (fewS ss bars (fewTab ss w bars (w.length - (a + 1))) a c i.1).1 ≤ c.1 := by
  have hl := fitB_len i.2.2
  rw [List.length_drop] at hl
  have h1 := hs i
  unfold txN at h1
  have h2 : (fewTab ss w bars (w.length - (a + 1))).getD (txN ss i.1 - 1) (0, 0) = fwAt ss w bars (a + txN ss i.1) := by
    rw [fewTab_at ss w bars (by omega) (by unfold txN; omega)]
    congr 1
    unfold txN; omega
  unfold fewS
  rw [h2]
  split
  · rename_i h3
    exact ⟨.inr ⟨i, rfl, h3.1, rfl, by have := h3.2; simp only; omega⟩, by have := h3.2; simp only; omega⟩
  · exact ⟨hc, Int.le_refl _⟩
theorem fewL_ok {ss : List TS} {w : List UInt8} {bars : List Int} {a : Nat} (ha : a < w.length) (hs : ∀ i : BegT ss (w.drop a), 1 ≤ txN ss i.1) : ∀ (pre : List (BegT ss (w.drop a))) (c : Int × Int), FwOk ss w bars a c → c.1 ≤ 31 →
    FwOk ss w bars a (pre.foldl (fun c i => fewS ss bars (fewTab ss w bars (w.length - (a + 1))) a c i.1) c) ∧ (pre.foldl (fun c i => fewS ss bars (fewTab ss w bars (w.length - (a + 1))) a c i.1) c).1 ≤ 31
  | [], c, h, h31 => ⟨h, h31⟩
  | i :: pre, c, h, h31 => by
    rw [List.foldl_cons]
    obtain ⟨h1, h2⟩ := fewS_ok ha hs h h31 i
    exact fewL_ok ha hs pre _ h1 (by omega)
theorem fwAt_ok {ss : List TS} {w : List UInt8} {bars : List Int} {a : Nat} (ha : a < w.length) (hs : ∀ i : BegT ss (w.drop a), 1 ≤ txN ss i.1) : FwOk ss w bars a (fwAt ss w bars a) := by
  rw [fwAt_one ss w bars ha]
  exact (fewL_ok ha hs _ _ (.inl ⟨rfl, rfl⟩) (Int.le_refl _)).1
theorem fwAt_bd {ss : List TS} {w : List UInt8} {bars : List Int} (hs : ∀ (a : Nat) (i : BegT ss (w.drop a)), 1 ≤ txN ss i.1) {a : Nat} (ha : a ≤ w.length) : 0 ≤ (fwAt ss w bars a).1 ∧ (fwAt ss w bars a).1 ≤ 31 := by
  by_cases h : a = w.length
  · subst h; rw [fwAt_end]; decide
  · rcases fwAt_ok (bars := bars) (show a < w.length by omega) (hs a) with h1 | ⟨i, _, _, h3, h4⟩
    · omega
    · have hl := fitB_len i.2.2
      rw [List.length_drop] at hl
      have h1 := hs a i
      have h5 := fwAt_bd (bars := bars) hs (a := a + txN ss i.1) (by unfold txN; omega)
      omega
termination_by w.length - a
decreasing_by unfold txN at *; omega
/-- The way through the table: the place and the sorts so far, after k sorts. -/
def fewSt (ss : List TS) (w : List UInt8) (bars : List Int) : Nat → Nat × List Int
  | 0 => (0, [])
  | k + 1 => if (fewSt ss w bars k).1 < w.length then ((fewSt ss w bars k).1 + txN ss (fwAt ss w bars (fewSt ss w bars k).1).2.toNat, (fewSt ss w bars k).2 ++ [(fwAt ss w bars (fewSt ss w bars k).1).2]) else fewSt ss w bars k
def fewOf (ss : List TS) (w : List UInt8) (bars : List Int) : Option (List Int) := if 31 ≤ (fwAt ss w bars 0).1 then none else some (fewSt ss w bars w.length).2
/-- What holds on the way. -/
theorem fewSt_bd {ss : List TS} {w : List UInt8} {bars : List Int} (hs : ∀ (a : Nat) (i : BegT ss (w.drop a)), 1 ≤ txN ss i.1) (h0 : (fwAt ss w bars 0).1 < 31) : ∀ k, (fewSt ss w bars k).1 ≤ w.length ∧ (fwAt ss w bars (fewSt ss w bars k).1).1 < 31 ∧ (fewSt ss w bars k).2.length ≤ (fewSt ss w bars k).1 ∧
    (∀ z ∈ (fewSt ss w bars k).2, 0 ≤ z ∧ z < (ss.length : Int)) ∧ ((fewSt ss w bars k).1 < w.length → k ≤ (fewSt ss w bars k).1 ∧ (fewSt ss w bars k).2.length = k)
  | 0 => ⟨Nat.zero_le _, h0, by simp [fewSt], by simp [fewSt], by simp [fewSt]⟩
  | k + 1 => by
    obtain ⟨h1, h2, h3, h4, h5⟩ := fewSt_bd hs h0 k
    by_cases ha : (fewSt ss w bars k).1 < w.length
    · rw [fewSt, if_pos ha]
      rcases fwAt_ok (bars := bars) ha (hs _) with h6 | ⟨i, e1, e2, e3, e4⟩
      · omega
      · have hl := fitB_len i.2.2
        rw [List.length_drop] at hl
        have h7 := hs _ i
        have hi := i.2.1
        rw [e1, Int.toNat_natCast]
        have h8 : txN ss i.1 = (ss.getD i.1 TS.zero).text.size := rfl
        refine ⟨by simp only; omega, by simp only; omega, by rw [List.length_append, List.length_singleton]; simp only; omega, fun z hz => ?_, fun hlt => ?_⟩
        · rcases List.mem_append.1 hz with h9 | h9
          · exact h4 z h9
          · rw [List.mem_singleton.1 h9]; omega
        · have := h5 ha
          rw [List.length_append, List.length_singleton]
          simp only at hlt ⊢
          omega
    · rw [fewSt, if_neg ha]
      exact ⟨h1, h2, h3, h4, fun h => absurd h ha⟩
theorem fewSt_done {ss : List TS} {w : List UInt8} {bars : List Int} {k : Nat} (ha : ¬ (fewSt ss w bars k).1 < w.length) : ∀ n, k ≤ n → fewSt ss w bars n = fewSt ss w bars k
  | 0, h => by rw [show k = 0 by omega]
  | n + 1, h => by
    rcases Nat.lt_or_ge n k with h1 | h1
    · rw [show n + 1 = k by omega]
    · rw [fewSt, fewSt_done ha n h1, if_neg ha]
theorem fewOf_none {ss : List TS} {w : List UInt8} {bars : List Int} (h : 31 ≤ (fwAt ss w bars 0).1) : fewOf ss w bars = none := by unfold fewOf; rw [if_pos h]
theorem fewOf_some {ss : List TS} {w : List UInt8} {bars : List Int} (hs : ∀ (a : Nat) (i : BegT ss (w.drop a)), 1 ≤ txN ss i.1) (h0 : (fwAt ss w bars 0).1 < 31) {k : Nat} (ha : ¬ (fewSt ss w bars k).1 < w.length) : fewOf ss w bars = some (fewSt ss w bars k).2 := by
  unfold fewOf
  rw [if_neg (by omega)]
  congr 1
  rcases Nat.le_total k w.length with h1 | h1
  · rw [fewSt_done ha _ h1]
  · have hb : ¬ (fewSt ss w bars w.length).1 < w.length := fun hlt => by have := (fewSt_bd hs h0 w.length).2.2.2.2 hlt; omega
    rw [fewSt_done hb _ h1]
end Go.Proofs.YtccdnieoaejgdaaGreatDoor
namespace Go.Proofs.YtccdnieoaejgdaaGreatDoor
open Go.RowKit Go.Shelf

/-- A slice of N zeros in a block of its own. -/
def ZeroS (w : World) (N : Nat) (v : Value) (W : World) : Prop := ∃ g, v = .slice (some ⟨g, 0, none⟩) N N ∧ Blk W g 3 (Array.replicate N (.int .i64 0)) ∧ w.heap.size + 2 ≤ g
/-- A new variable of slices. -/
def NewV (w : World) (b : Bool) (v : Value) (W : World) : Prop := ∃ q, v = .pointer (some ⟨q, 0, none⟩) ∧ (b = false → Blk W q 27 #[.slice none 0 0]) ∧ w.heap.size + 2 ≤ q ∧ q < W.heap.size
def NeS (v u : Value) : Prop := v.ownBlock ≠ u.ownBlock
def NeP (v u : Value) : Prop := v ≠ u
/-- A variable that holds a slice of zeros. -/
def InV (w : World) (N : Nat) (p v : Value) (W : World) : Prop := ∃ q g, p = .pointer (some ⟨q, 0, none⟩) ∧ v = .slice (some ⟨g, 0, none⟩) N N ∧ Blk W q 27 #[.slice (some ⟨g, 0, none⟩) N N] ∧ Blk W g 3 (Array.replicate N (.int .i64 0)) ∧ w.heap.size + 2 ≤ q ∧ w.heap.size + 2 ≤ g
structure Fw1 (w : World) (PC : Array Value) (BV : Value) (N : Nat) (U : Nat → Value) (b c : Bool) (W : World) : Prop where
  ext : Ext w W
  pb : Blk W w.heap.size 126 PC
  bb : Blk W (w.heap.size + 1) 27 #[BV]
  n1 : b = true → InV w N (U 8) (U 3) W
  n2 : c = true → InV w N (U 9) (U 7) W
section
variable {w W W' : World} {PC : Array Value} {BV : Value} {N : Nat} {U : Nat → Value} {b c : Bool} {v : Value}
theorem ZeroS.ext (h : ZeroS w N v W) (hx : Ext W W') : ZeroS w N v W' := let ⟨g, h1, h2, h3⟩ := h; ⟨g, h1, h2.ext hx, h3⟩
theorem ZeroS.sto {q : Nat} {y : Value} {cs : Array Value} (h : ZeroS w N v W) (hq : Blk W q 27 cs) : ZeroS w N v (W.setCell ⟨q, 0, none⟩ y) := let ⟨g, h1, h2, h3⟩ := h; ⟨g, h1, h2.far (p := ⟨q, 0, none⟩) (blk_neT h2 hq (by decide)) _, h3⟩
theorem NewV.ext (h : NewV w b v W) (hx : Ext W W') : NewV w b v W' := let ⟨q, h1, h2, h3, h4⟩ := h; ⟨q, h1, fun e => (h2 e).ext hx, h3, Nat.lt_of_lt_of_le h4 hx.size⟩
theorem NewV.sto {q : Nat} {y : Value} (h : NewV w b v W) (hn : v ≠ .pointer (some ⟨q, 0, none⟩)) : NewV w b v (W.setCell ⟨q, 0, none⟩ y) := let ⟨g, h1, h2, h3, h4⟩ := h; ⟨g, h1, fun e => (h2 e).far (p := ⟨q, 0, none⟩) (fun e2 => hn (by rw [h1, e2])) _, h3, by simpa [World.setCell] using h4⟩
theorem NewV.done {q : Nat} {y : Value} (h : NewV w false v W) : NewV w true v (W.setCell ⟨q, 0, none⟩ y) := let ⟨g, h1, _, h3, h4⟩ := h; ⟨g, h1, fun e => (by cases e), h3, by simpa [World.setCell] using h4⟩
theorem InV.ext {p : Value} (h : InV w N p v W) (hx : Ext W W') : InV w N p v W' := let ⟨q, g, h1, h2, h3, h4, h5⟩ := h; ⟨q, g, h1, h2, h3.ext hx, h4.ext hx, h5⟩
theorem InV.sto {p : Value} {q : Nat} {y : Value} {cs : Array Value} (h : InV w N p v W) (hq : Blk W q 27 cs) (hn : p ≠ .pointer (some ⟨q, 0, none⟩)) : InV w N p v (W.setCell ⟨q, 0, none⟩ y) :=
  let ⟨q2, g, h1, h2, h3, h4, h5⟩ := h; ⟨q2, g, h1, h2, h3.far (p := ⟨q, 0, none⟩) (fun e2 => hn (by rw [h1, e2])) _, h4.far (p := ⟨q, 0, none⟩) (blk_neT h4 hq (by decide)) _, h5⟩
theorem InV.mk' {q g : Nat} (hq : Blk W q 27 #[.slice none 0 0]) (hg : Blk W g 3 (Array.replicate N (.int .i64 0))) (h1 : w.heap.size + 2 ≤ q) (h2 : w.heap.size + 2 ≤ g) : InV w N (.pointer (some ⟨q, 0, none⟩)) (.slice (some ⟨g, 0, none⟩) N N) (W.setCell ⟨q, 0, none⟩ (.slice (some ⟨g, 0, none⟩) N N)) :=
  ⟨q, g, rfl, rfl, hq.set_ 0 _, hg.far (p := ⟨q, 0, none⟩) (blk_neT hg hq (by decide)) _, h1, h2⟩
theorem Fw1.next (h : Fw1 w PC BV N U b c W) (hx : Ext W W') : Fw1 w PC BV N U b c W' := ⟨h.ext.trans hx, h.pb.ext hx, h.bb.ext hx, fun e => (h.n1 e).ext hx, fun e => (h.n2 e).ext hx⟩
theorem Fw1.sto1 {q g : Nat} {u : Value} (h : Fw1 w PC BV N U false c W) (e8 : U 8 = .pointer (some ⟨q, 0, none⟩)) (e3 : U 3 = .slice (some ⟨g, 0, none⟩) N N) (hq : Blk W q 27 #[.slice none 0 0]) (hg : Blk W g 3 (Array.replicate N (.int .i64 0))) (h1 : w.heap.size + 2 ≤ q) (h2 : w.heap.size + 2 ≤ g) (hn : c = true → U 9 ≠ U 8) :
    Fw1 w PC BV N (upd U 10 u) true c (W.setCell ⟨q, 0, none⟩ (.slice (some ⟨g, 0, none⟩) N N)) := by
  refine ⟨h.ext.setCell (p := ⟨q, 0, none⟩) (by simp only; omega) _, h.pb.far (p := ⟨q, 0, none⟩) (by simp only; omega) _, h.bb.far (p := ⟨q, 0, none⟩) (by simp only; omega) _, fun _ => ?_, fun e => ?_⟩
  · show InV w N (U 8) (U 3) _
    rw [e8, e3]; exact InV.mk' hq hg h1 h2
  · show InV w N (U 9) (U 7) _
    exact (h.n2 e).sto hq (by rw [← e8]; exact hn e)
theorem Fw1.sto2 {q g : Nat} {u : Value} (h : Fw1 w PC BV N U b false W) (e9 : U 9 = .pointer (some ⟨q, 0, none⟩)) (e7 : U 7 = .slice (some ⟨g, 0, none⟩) N N) (hq : Blk W q 27 #[.slice none 0 0]) (hg : Blk W g 3 (Array.replicate N (.int .i64 0))) (h1 : w.heap.size + 2 ≤ q) (h2 : w.heap.size + 2 ≤ g) (hn : b = true → U 8 ≠ U 9) :
    Fw1 w PC BV N (upd U 11 u) b true (W.setCell ⟨q, 0, none⟩ (.slice (some ⟨g, 0, none⟩) N N)) := by
  refine ⟨h.ext.setCell (p := ⟨q, 0, none⟩) (by simp only; omega) _, h.pb.far (p := ⟨q, 0, none⟩) (by simp only; omega) _, h.bb.far (p := ⟨q, 0, none⟩) (by simp only; omega) _, fun e => ?_, fun _ => ?_⟩
  · show InV w N (U 8) (U 3) _
    exact (h.n1 e).sto hq (by rw [← e9]; exact hn e)
  · show InV w N (U 9) (U 7) _
    rw [e9, e7]; exact InV.mk' hq hg h1 h2
end
def intC (l : List Int) : Array Value := (l.map (Value.int .i64)).toArray
theorem intC_at {l : List Int} {k : Nat} (h : k < l.length) : (intC l)[k]? = some (.int .i64 (l.getD k 0)) := by
  unfold intC
  rw [List.getElem?_toArray, List.getElem?_map, List.getElem?_eq_getElem h, List.getD_eq_getElem?_getD, List.getElem?_eq_getElem h]; rfl
theorem intC_set (l : List Int) (k : Nat) (z : Int) : (intC l).setIfInBounds k (.int .i64 z) = intC (l.set k z) := by
  unfold intC; simp [List.map_set]
theorem intC_zero (n : Nat) : intC (List.replicate n 0) = Array.replicate n (.int .i64 0) := by
  unfold intC; simp
/-- The tables under way: the numbers by Mn, the first sorts by Mf. -/
structure FwT (w : World) (PC : Array Value) (BV : Value) (n q8 g3 q9 g7 : Nat) (Mn Mf : List (Int × Int)) (ab : Nat) (a : Int) (Ds : List Nat) (W : World) : Prop where
  ext : Ext w W
  pb : Blk W w.heap.size 126 PC
  bb : Blk W (w.heap.size + 1) 27 #[BV]
  b8 : Blk W q8 27 #[.slice (some ⟨g3, 0, none⟩) (n + 1) (n + 1)]
  b9 : Blk W q9 27 #[.slice (some ⟨g7, 0, none⟩) (n + 1) (n + 1)]
  nn : Blk W g3 3 (intC (nT n Mn))
  ff : Blk W g7 3 (intC (fT n Mf))
  at_ : Blk W ab 3 #[.int .i64 a]
  ne : g3 ≠ g7 ∧ ab ≠ g3 ∧ ab ≠ g7
  lo : w.heap.size + 2 ≤ g3 ∧ w.heap.size + 2 ≤ g7 ∧ w.heap.size + 2 ≤ ab
  ms : Marks w.heap.size Ds W
section
variable {w W W' : World} {PC : Array Value} {BV : Value} {n q8 g3 q9 g7 ab : Nat} {Mn Mf Mn' Mf' : List (Int × Int)} {a : Int} {Ds : List Nat}
theorem FwT.next (h : FwT w PC BV n q8 g3 q9 g7 Mn Mf ab a Ds W) (hx : Ext W W') : FwT w PC BV n q8 g3 q9 g7 Mn Mf ab a Ds W' :=
  ⟨h.ext.trans hx, h.pb.ext hx, h.bb.ext hx, h.b8.ext hx, h.b9.ext hx, h.nn.ext hx, h.ff.ext hx, h.at_.ext hx, h.ne, h.lo, h.ms.ext hx⟩
theorem FwT.from {α : Type} (fn ff : α → List (Int × Int)) (B : Nat) (hB : ∀ D, D ∈ Ds → D < B) (hw : w.heap.size ≤ B) : OwnFrom B (fun (s : α) W => FwT w PC BV n q8 g3 q9 g7 (fn s) (ff s) ab a Ds W) := fun s X Y row h hg hr => by
  have keep : ∀ {k : Nat} {t : TypeId} {cs : Array Value}, Blk X k t cs → row ≠ some k := fun {k t cs} hb e => by
    obtain ⟨_, o, ho, hc⟩ := hr k e; unfold Blk at hb; rw [hb] at ho; cases ho; cases hc
  exact ⟨h.ext.grown hg (fun k e => by have := (hr k e).1; omega), h.pb.grownB hg (keep h.pb), h.bb.grownB hg (keep h.bb), h.b8.grownB hg (keep h.b8), h.b9.grownB hg (keep h.b9), h.nn.grownB hg (keep h.nn), h.ff.grownB hg (keep h.ff), h.at_.grownB hg (keep h.at_), h.ne, h.lo, Marks.own (α := α) w.heap.size B Ds hB s X Y row h.ms hg hr⟩
theorem FwT.setN (h : FwT w PC BV n q8 g3 q9 g7 Mn Mf ab a Ds W) (k : Nat) (z : Int) (e : (nT n Mn).set k z = nT n Mn') : FwT w PC BV n q8 g3 q9 g7 Mn' Mf ab a Ds (W.setCell ⟨g3, k, none⟩ (.int .i64 z)) := by
  have hg := set_grownB W ⟨g3, k, none⟩ (.int .i64 z)
  have hne := h.ne; have hlo := h.lo
  refine ⟨h.ext.setCell (p := ⟨g3, k, none⟩) (by simp only; omega) _, h.pb.far (p := ⟨g3, k, none⟩) (blk_neT h.pb h.nn (by decide)) _, h.bb.far (p := ⟨g3, k, none⟩) (blk_neT h.bb h.nn (by decide)) _, h.b8.far (p := ⟨g3, k, none⟩) (blk_neT h.b8 h.nn (by decide)) _, h.b9.far (p := ⟨g3, k, none⟩) (blk_neT h.b9 h.nn (by decide)) _, ?_,
    h.ff.far (p := ⟨g3, k, none⟩) (fun e => hne.1 e.symm) _, h.at_.far (p := ⟨g3, k, none⟩) hne.2.1 _, h.ne, h.lo, h.ms.grownB hg (fun j e => by cases e; exact ⟨_, _, h.nn⟩)⟩
  have h2 := h.nn.set_ k (.int .i64 z)
  rwa [intC_set, e] at h2
theorem FwT.setF (h : FwT w PC BV n q8 g3 q9 g7 Mn Mf ab a Ds W) (k : Nat) (z : Int) (e : (fT n Mf).set k z = fT n Mf') : FwT w PC BV n q8 g3 q9 g7 Mn Mf' ab a Ds (W.setCell ⟨g7, k, none⟩ (.int .i64 z)) := by
  have hg := set_grownB W ⟨g7, k, none⟩ (.int .i64 z)
  have hne := h.ne; have hlo := h.lo
  refine ⟨h.ext.setCell (p := ⟨g7, k, none⟩) (by simp only; omega) _, h.pb.far (p := ⟨g7, k, none⟩) (blk_neT h.pb h.ff (by decide)) _, h.bb.far (p := ⟨g7, k, none⟩) (blk_neT h.bb h.ff (by decide)) _, h.b8.far (p := ⟨g7, k, none⟩) (blk_neT h.b8 h.ff (by decide)) _, h.b9.far (p := ⟨g7, k, none⟩) (blk_neT h.b9 h.ff (by decide)) _,
    h.nn.far (p := ⟨g7, k, none⟩) hne.1 _, ?_, h.at_.far (p := ⟨g7, k, none⟩) hne.2.2 _, h.ne, h.lo, h.ms.grownB hg (fun j e => by cases e; exact ⟨_, _, h.ff⟩)⟩
  have h2 := h.ff.set_ k (.int .i64 z)
  rwa [intC_set, e] at h2
theorem FwT.getN (h : FwT w PC BV n q8 g3 q9 g7 Mn Mf ab a Ds W) (hl : Mn.length ≤ n + 1) {k : Nat} (hk : k < n + 1) : W.cell? ⟨g3, k, none⟩ = some (.int .i64 ((nT n Mn).getD k 0)) ∧ W.frozen? ⟨g3, k, none⟩ = false ∧ g3 < W.heap.size :=
  ⟨h.nn.cell k _ (intC_at (by rw [nT_len hl]; exact hk)), h.nn.frozen k, h.nn.lt⟩
theorem FwT.getF (h : FwT w PC BV n q8 g3 q9 g7 Mn Mf ab a Ds W) (hl : Mf.length ≤ n + 1) {k : Nat} (hk : k < n + 1) : W.cell? ⟨g7, k, none⟩ = some (.int .i64 ((fT n Mf).getD k 0)) ∧ W.frozen? ⟨g7, k, none⟩ = false ∧ g7 < W.heap.size :=
  ⟨h.ff.cell k _ (intC_at (by rw [fT_len hl]; exact hk)), h.ff.frozen k, h.ff.lt⟩
theorem FwT.cons (h : FwT w PC BV n q8 g3 q9 g7 Mn Mf ab a Ds W) {D : Nat} (hD : W.heap[D]? = some (.deferred (some []))) (h0 : w.heap.size ≤ D) (hn : ∀ E, E ∈ Ds → E < D) : FwT w PC BV n q8 g3 q9 g7 Mn Mf ab a (D :: Ds) W := ⟨h.ext, h.pb, h.bb, h.b8, h.b9, h.nn, h.ff, h.at_, h.ne, h.lo, h.ms.cons hD h0 hn⟩
end
theorem FwT.reF {w W : World} {PC : Array Value} {BV : Value} {n q8 g3 q9 g7 ab : Nat} {Mn Mf Mf' : List (Int × Int)} {a : Int} {Ds : List Nat} (h : FwT w PC BV n q8 g3 q9 g7 Mn Mf ab a Ds W) (e : fT n Mf = fT n Mf') : FwT w PC BV n q8 g3 q9 g7 Mn Mf' ab a Ds W :=
  ⟨h.ext, h.pb, h.bb, h.b8, h.b9, h.nn, by rw [← e]; exact h.ff, h.at_, h.ne, h.lo, h.ms⟩
theorem FwT.newAt {w W : World} {PC : Array Value} {BV : Value} {n q8 g3 q9 g7 ab : Nat} {Mn Mf : List (Int × Int)} {a : Int} {Ds : List Nat} (h : FwT w PC BV n q8 g3 q9 g7 Mn Mf ab a Ds W) (a' : Int) : FwT w PC BV n q8 g3 q9 g7 Mn Mf W.heap.size a' Ds (W.alloc (.cells #[.int .i64 a'] 3)) := by
  have hx : Ext W (W.alloc (.cells #[.int .i64 a'] 3)) := (Ext.refl W).alloc _
  have h1 := h.nn.lt; have h2 := h.ff.lt; have h3 := h.ext.size; have h4 := h.at_.lt; have h5 := h.lo
  exact ⟨h.ext.trans hx, h.pb.ext hx, h.bb.ext hx, h.b8.ext hx, h.b9.ext hx, h.nn.ext hx, h.ff.ext hx, Blk.new W _ _, ⟨h.ne.1, by omega, by omega⟩, ⟨h5.1, h5.2.1, by omega⟩, h.ms.ext hx⟩
/-- The round's stores: the number (b) and the first sort (c). -/
structure Fw10 (w : World) (PC : Array Value) (BV : Value) (n q8 g3 q9 g7 : Nat) (L : List (Int × Int)) (c0 c1 : Int × Int) (ab a : Nat) (Ds : List Nat) (bk bf : Nat) (wq wo : World) (b c : Bool) (W : World) : Prop where
  t : FwT w PC BV n q8 g3 q9 g7 ((if b = true then c1 else c0) :: L) ((if c = true then c1 else c0) :: L) ab (a : Int) Ds W
  kf : KeepsFrom wq.heap.size wo W
  kp : KpX w bk bf wo W
  bd : bk < W.heap.size ∧ bf < W.heap.size
section
variable {w W W' wq wo : World} {PC : Array Value} {BV : Value} {n q8 g3 q9 g7 ab a bk bf : Nat} {L : List (Int × Int)} {c0 c1 : Int × Int} {Ds : List Nat} {b c : Bool}
theorem Fw10.next (h : Fw10 w PC BV n q8 g3 q9 g7 L c0 c1 ab a Ds bk bf wq wo b c W) (hx : Ext W W') : Fw10 w PC BV n q8 g3 q9 g7 L c0 c1 ab a Ds bk bf wq wo b c W' :=
  ⟨h.t.next hx, h.kf.trans (hx.keeps _), h.kp.trans (hx.kpx h.bd.1 h.bd.2), Nat.lt_of_lt_of_le h.bd.1 hx.size, Nat.lt_of_lt_of_le h.bd.2 hx.size⟩
theorem Fw10.sN (h : Fw10 w PC BV n q8 g3 q9 g7 L c0 c1 ab a Ds bk bf wq wo false c W) (ha : a + L.length = n) (hk : bk ≠ g3 ∧ bf ≠ g3) : Fw10 w PC BV n q8 g3 q9 g7 L c0 c1 ab a Ds bk bf wq wo true c (W.setCell ⟨g3, a, none⟩ (.int .i64 c1.1)) := by
  have h1 := h.t.setN (Mn' := c1 :: L) a c1.1 (by rw [show a = n - L.length by omega]; exact nT_put (by omega) c0 c1.1 c1.2)
  refine ⟨h1, h.kf.trans ((KeepsOthers.setCell _ _ _).from _), h.kp.trans (KpX.of_setCell (q := ⟨g3, a, none⟩) _ (by have := h.t.lo; simp only; omega) hk.1 hk.2), by simpa [World.setCell] using h.bd.1, by simpa [World.setCell] using h.bd.2⟩
theorem Fw10.sF (h : Fw10 w PC BV n q8 g3 q9 g7 L c0 c1 ab a Ds bk bf wq wo b false W) (ha : a + L.length = n) (hk : bk ≠ g7 ∧ bf ≠ g7) : Fw10 w PC BV n q8 g3 q9 g7 L c0 c1 ab a Ds bk bf wq wo b true (W.setCell ⟨g7, a, none⟩ (.int .i64 c1.2)) := by
  have h1 := h.t.setF (Mf' := c1 :: L) a c1.2 (by rw [show a = n - L.length by omega]; exact fT_put (by omega) c0 c1.1 c1.2)
  refine ⟨h1, h.kf.trans ((KeepsOthers.setCell _ _ _).from _), h.kp.trans (KpX.of_setCell (q := ⟨g7, a, none⟩) _ (by have := h.t.lo; simp only; omega) hk.1 hk.2), by simpa [World.setCell] using h.bd.1, by simpa [World.setCell] using h.bd.2⟩
end
theorem fewL_bd {ss : List TS} {w : List UInt8} {bars : List Int} (hs : ∀ (a : Nat) (i : BegT ss (w.drop a)), 1 ≤ txN ss i.1) {a : Nat} (ha : a < w.length) : ∀ l, l = w.drop a → ∀ pre : List (BegT ss l), 0 ≤ (fewL ss bars (fewTab ss w bars (w.length - (a + 1))) a pre).1 ∧ (fewL ss bars (fewTab ss w bars (w.length - (a + 1))) a pre).1 ≤ 31 := by
  rintro _ rfl pre
  obtain ⟨h1, h2⟩ := fewL_ok (bars := bars) ha (hs a) pre (31, 0) (.inl ⟨rfl, rfl⟩) (Int.le_refl _)
  refine ⟨?_, h2⟩
  rcases h1 with h1 | ⟨i, _, _, h3, _⟩
  · show 0 ≤ (pre.foldl (fun c i => fewS ss bars (fewTab ss w bars (w.length - (a + 1))) a c i.1) (31, 0)).1
    rw [h1.1]; decide
  · have hl := fitB_len i.2.2
    rw [List.length_drop] at hl
    have h5 := (fwAt_bd (bars := bars) hs (a := a + txN ss i.1) (by unfold txN; omega)).1
    show 0 ≤ (pre.foldl (fun c i => fewS ss bars (fewTab ss w bars (w.length - (a + 1))) a c i.1) (31, 0)).1
    rw [h3]; omega
end Go.Proofs.YtccdnieoaejgdaaGreatDoor
