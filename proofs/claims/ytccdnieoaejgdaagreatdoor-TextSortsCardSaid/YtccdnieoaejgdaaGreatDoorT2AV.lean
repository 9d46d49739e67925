/-
  What setting a word computes, in plain words: the sorts that begin a text, the longest of them, the set word, the fewest sorts. No program in sight.
  Walk: the sorts that print what stands at the beginning of a text, one by one (an iterator).
  Walk: whether a place within a sort's bytes is barred.
  What lies there while a word is set: the sorts so far, the place, the longest sort at hand.
  What lies there while a line is read: the reader, the word at hand, the words so far.
-/
import Derived.Test.YtccdnieoaejgdaaGreatDoorT2AJ
import Derived.Test.YtccdnieoaejgdaaGreatDoorT2AM
import Derived.Test.YtccdnieoaejgdaaGreatDoorT2AC
import Derived.Test.YtccdnieoaejgdaaGreatDoorT2AT
import Derived.Test.YtccdnieoaejgdaaGreatDoorT2AQ
import Derived.Test.YtccdnieoaejgdaaGreatDoorT2AU
set_option linter.unusedVariables false
set_option linter.unusedSimpArgs false
set_option linter.unusedSectionVars false
namespace Go.Proofs.YtccdnieoaejgdaaGreatDoor

/-- A sort prints what stands at the beginning of a text. -/
def fitB (x : TS) (l : List UInt8) : Bool := decide (x.kind ≠ 3) && decide (l.take x.text.size = x.text.data.toList)
def barIn (bars : List Int) (a n : Int) : Bool := bars.any fun p => decide (a < p) && decide (p < a + n)
/-- The number of a sort that begins a text. -/
abbrev BegT (ss : List TS) (l : List UInt8) := { i : Nat // i < ss.length ∧ fitB (ss.getD i TS.zero) l = true }
/-- Those, of the first k sorts. -/
def begTo (ss : List TS) (l : List UInt8) : Nat → List (BegT ss l)
  | 0 => []
  | k + 1 => if h : k < ss.length ∧ fitB (ss.getD k TS.zero) l = true then begTo ss l k ++ [⟨k, h⟩] else begTo ss l k
theorem begTo_len (ss : List TS) (l : List UInt8) : ∀ k, (begTo ss l k).length ≤ k
  | 0 => Nat.le_refl _
  | k + 1 => by
    unfold begTo
    have := begTo_len ss l k
    split
    · rw [List.length_append]; simp; omega
    · omega
def txN (ss : List TS) (i : Nat) : Nat := (ss.getD i TS.zero).text.size
/-- The longest sort, of those that begin the text and are not barred: one more is looked at. -/
def bestS (ss : List TS) (bars : List Int) (a : Nat) (c : Int × Int) (i : Nat) : Int × Int :=
  if c.2 < (txN ss i : Int) ∧ barIn bars a (txN ss i) = false then ((i : Int), (txN ss i : Int)) else c
def bestL (ss : List TS) (bars : List Int) (a : Nat) {l : List UInt8} (pre : List (BegT ss l)) : Int × Int := pre.foldl (fun c i => bestS ss bars a c i.1) (-1, 0)
theorem bestL_snoc (ss : List TS) (bars : List Int) (a : Nat) {l : List UInt8} (pre : List (BegT ss l)) (i : BegT ss l) : bestL ss bars a (pre ++ [i]) = bestS ss bars a (bestL ss bars a pre) i.1 := by
  unfold bestL; rw [List.foldl_append]; rfl
/-- The longest sort at a place: its number (-1: there is none) and its bytes. -/
def bestAt (ss : List TS) (w : List UInt8) (bars : List Int) (a : Nat) : Int × Int := bestL ss bars a (begTo ss (w.drop a) ss.length)
theorem bestL_bd (ss : List TS) (bars : List Int) (a : Nat) {l : List UInt8} : ∀ (pre : List (BegT ss l)) (c : Int × Int),
    ((c.1 = -1 ∧ c.2 = 0) ∨ (∃ i : BegT ss l, c = ((i.1 : Int), (txN ss i.1 : Int)) ∧ 1 ≤ txN ss i.1 ∧ barIn bars a (txN ss i.1) = false)) →
    let d := pre.foldl (fun c i => bestS ss bars a c i.1) c
    ((d.1 = -1 ∧ d.2 = 0) ∨ (∃ i : BegT ss l, d = ((i.1 : Int), (txN ss i.1 : Int)) ∧ 1 ≤ txN ss i.1 ∧ barIn bars a (txN ss i.1) = false))
  | [], c, h => h
  | i :: pre, c, h => by
    rw [List.foldl_cons]
    refine bestL_bd ss bars a pre _ ?_
    unfold bestS
    split
    · rename_i h1
      refine .inr ⟨i, rfl, ?_, h1.2⟩
      rcases h with h | ⟨j, h, hj, _⟩
      · have := h.2; omega
      · rw [h] at h1; have := h1.1; simp only at this; omega
    · exact h
theorem bestAt_bd (ss : List TS) (w : List UInt8) (bars : List Int) (a : Nat) :
    (bestAt ss w bars a = (-1, 0)) ∨ (∃ i : BegT ss (w.drop a), bestAt ss w bars a = ((i.1 : Int), (txN ss i.1 : Int)) ∧ 1 ≤ txN ss i.1 ∧ barIn bars a (txN ss i.1) = false) := by
  have h := bestL_bd ss bars a (begTo ss (w.drop a) ss.length) (-1, 0) (.inl ⟨rfl, rfl⟩)
  rcases h with h | h
  · exact .inl (Prod.ext h.1 h.2)
  · exact .inr h
theorem fitB_len {x : TS} {l : List UInt8} (h : fitB x l = true) : x.text.size ≤ l.length := by
  unfold fitB at h
  rw [Bool.and_eq_true, decide_eq_true_eq, decide_eq_true_eq] at h
  have := congrArg List.length h.2
  rw [List.length_take] at this
  simp at this
  omega
/-- Setting: the place that is reached and the sorts so far, after k sorts; none: no sort fits. -/
def setSt (ss : List TS) (w : List UInt8) (bars : List Int) : Nat → Option (Nat × List Int)
  | 0 => some (0, [])
  | k + 1 => match setSt ss w bars k with
    | none => none
    | some (a, out) => if a < w.length then (if (bestAt ss w bars a).1 < 0 then none else some (a + (bestAt ss w bars a).2.toNat, out ++ [(bestAt ss w bars a).1])) else some (a, out)
/-- The set word. -/
def setOf (ss : List TS) (w : List UInt8) (bars : List Int) : Option (List Int) := (setSt ss w bars w.length).map Prod.snd
theorem setSt_next {ss : List TS} {w : List UInt8} {bars : List Int} {k a : Nat} {out : List Int} (h : setSt ss w bars k = some (a, out)) (ha : a < w.length) :
    setSt ss w bars (k + 1) = if (bestAt ss w bars a).1 < 0 then none else some (a + (bestAt ss w bars a).2.toNat, out ++ [(bestAt ss w bars a).1]) := by
  rw [setSt, h]; simp only; rw [if_pos ha]
theorem setSt_none {ss : List TS} {w : List UInt8} {bars : List Int} {k : Nat} (h : setSt ss w bars k = none) : ∀ n, k ≤ n → setSt ss w bars n = none
  | 0, hn => by rw [show k = 0 by omega] at h; exact h
  | n + 1, hn => by
    rcases Nat.lt_or_ge n k with h1 | h1
    · rw [show n + 1 = k by omega]; exact h
    · rw [setSt, setSt_none h n h1]
theorem setSt_done {ss : List TS} {w : List UInt8} {bars : List Int} {k a : Nat} {out : List Int} (h : setSt ss w bars k = some (a, out)) (ha : ¬ a < w.length) : ∀ n, k ≤ n → setSt ss w bars n = some (a, out)
  | 0, hn => by rw [show k = 0 by omega] at h; exact h
  | n + 1, hn => by
    rcases Nat.lt_or_ge n k with h1 | h1
    · rw [show n + 1 = k by omega]; exact h
    · rw [setSt, setSt_done h ha n h1]; simp only; rw [if_neg ha]
/-- What the setting keeps. -/
theorem setSt_bd {ss : List TS} {w : List UInt8} {bars : List Int} : ∀ {k a : Nat} {out : List Int}, setSt ss w bars k = some (a, out) → a ≤ w.length ∧ out.length ≤ a ∧ (∀ z ∈ out, 0 ≤ z ∧ z < (ss.length : Int)) ∧ (a < w.length → k ≤ a)
  | 0, a, out, h => by cases h; simp
  | k + 1, a, out, h => by
    rw [setSt] at h
    cases hq : setSt ss w bars k with
    | none => rw [hq] at h; cases h
    | some q =>
      obtain ⟨b, o⟩ := q
      rw [hq] at h
      simp only at h
      have ih := setSt_bd hq
      split at h
      · rename_i hb
        split at h
        · cases h
        · rename_i hn
          cases h
          rcases bestAt_bd ss w bars b with h1 | ⟨i, h1, h2, _⟩
          · rw [h1] at hn; exact absurd (by decide) hn
          · have hl := fitB_len i.2.2
            rw [List.length_drop] at hl
            rw [h1]
            simp only [Int.toNat_natCast]
            unfold txN at h2 ⊢
            refine ⟨by omega, by rw [List.length_append, List.length_singleton]; omega, fun z hz => ?_, fun _ => by omega⟩
            rcases List.mem_append.1 hz with h3 | h3
            · exact ih.2.2.1 z h3
            · rw [List.mem_singleton.1 h3]; have := i.2.1; omega
      · rename_i hb
        cases h
        exact ⟨ih.1, ih.2.1, ih.2.2.1, fun hlt => absurd hlt hb⟩
theorem setOf_none {ss : List TS} {w : List UInt8} {bars : List Int} {k a : Nat} {out : List Int} (h : setSt ss w bars k = some (a, out)) (ha : a < w.length) (hn : (bestAt ss w bars a).1 < 0) : setOf ss w bars = none := by
  have h1 := setSt_next h ha
  rw [if_pos hn] at h1
  unfold setOf
  rw [setSt_none h1 w.length (by have := (setSt_bd h).2.2.2 ha; omega)]; rfl
theorem setOf_some {ss : List TS} {w : List UInt8} {bars : List Int} {k a : Nat} {out : List Int} (h : setSt ss w bars k = some (a, out)) (ha : ¬ a < w.length) : setOf ss w bars = some out := by
  unfold setOf
  rcases Nat.le_total k w.length with h1 | h1
  · rw [setSt_done h ha w.length h1]; rfl
  · cases hq : setSt ss w bars w.length with
    | none => rw [setSt_none hq k h1] at h; cases h
    | some q =>
      obtain ⟨b, o⟩ := q
      have hb : ¬ b < w.length := fun hlt => by have := (setSt_bd hq).2.2.2 hlt; omega
      rw [setSt_done hq hb k h1] at h
      cases h; rfl
/-- The fewest sorts: how many the text from place a on needs and the first one of them; L is the same for the places behind a (those from a + 1 on), one more sort is looked at. -/
def fewS (ss : List TS) (bars : List Int) (L : List (Int × Int)) (a : Nat) (c : Int × Int) (i : Nat) : Int × Int :=
  if barIn bars a (txN ss i) = false ∧ (L.getD (txN ss i - 1) (0, 0)).1 + 1 < c.1 then ((L.getD (txN ss i - 1) (0, 0)).1 + 1, (i : Int)) else c
def fewL (ss : List TS) (bars : List Int) (L : List (Int × Int)) (a : Nat) {l : List UInt8} (pre : List (BegT ss l)) : Int × Int := pre.foldl (fun c i => fewS ss bars L a c i.1) (31, 0)
theorem fewL_snoc (ss : List TS) (bars : List Int) (L : List (Int × Int)) (a : Nat) {l : List UInt8} (pre : List (BegT ss l)) (i : BegT ss l) : fewL ss bars L a (pre ++ [i]) = fewS ss bars L a (fewL ss bars L a pre) i.1 := by
  unfold fewL; rw [List.foldl_append]; rfl
/-- .. for the last j bytes of a text: place (length - j) comes first. -/
def fewTab (ss : List TS) (w : List UInt8) (bars : List Int) : Nat → List (Int × Int)
  | 0 => [(0, 0)]
  | j + 1 => fewL ss bars (fewTab ss w bars j) (w.length - (j + 1)) (begTo ss (w.drop (w.length - (j + 1))) ss.length) :: fewTab ss w bars j
theorem fewTab_len (ss : List TS) (w : List UInt8) (bars : List Int) : ∀ j, (fewTab ss w bars j).length = j + 1
  | 0 => rfl
  | j + 1 => by rw [fewTab, List.length_cons, fewTab_len ss w bars j]
end Go.Proofs.YtccdnieoaejgdaaGreatDoor
namespace Go.Proofs.YtccdnieoaejgdaaGreatDoor
open Go.RowKit Go.Shelf
attribute [local go_sem] Oper.semAt_some wide_fn wide_depth

theorem begins_any (f : FT) (A : Option Addr) (c : Nat) (s : ByteArray) (w : World) :
    Calls Tryz.prog 113 #[f.val A c, .string s] w (fun e w' => e = .returned (.func (.func 143) #[] #[.pointer (some ⟨w.heap.size, 0, none⟩), .pointer (some ⟨w.heap.size + 1, 0, none⟩)]) ∧
      w' = (w.alloc (.cells #[.string f.name, .int .i64 f.body, .slice A f.sorts.length c] 126)).alloc (.cells #[.string s] 9)) := by
  unfold FT.val
  go_enter Tryz.func113, Tryz.ntmps113
  go_wp2
  go_ret
  exact ⟨rfl, rfl⟩
/-- What lies there while the sorts are found. -/
structure BgS (w0 : World) (f : FT) (A : Option Addr) (c : Nat) (s : ByteArray) (bk bf : Nat) (W : World) : Prop where
  ext : Ext w0 W
  fr : FR w0 A c f
  bb : Blk W bk 126 #[.string f.name, .int .i64 f.body, .slice A f.sorts.length c]
  bfr : Blk W bf 9 #[.string s]
section
variable {w0 W W' : World} {f : FT} {A : Option Addr} {c bk bf : Nat} {s : ByteArray}
theorem BgS.ext' (h : BgS w0 f A c s bk bf W) (hx : Ext W W') : BgS w0 f A c s bk bf W' := ⟨h.ext.trans hx, h.fr, h.bb.ext hx, h.bfr.ext hx⟩
theorem BgS.kp (h : BgS w0 f A c s bk bf W) (hk : KpX w0 bk bf W W') : BgS w0 f A c s bk bf W' := ⟨hk.1 h.ext, h.fr, hk.2.1.trans h.bb, hk.2.2.trans h.bfr⟩
theorem BgS.at (h : BgS w0 f A c s bk bf W) : (W.cell? ⟨bk, 2, none⟩ = some (.slice A f.sorts.length c) ∧ W.cell? ⟨bf, 0, none⟩ = some (.string s)) ∧ bk < W.heap.size ∧ bf < W.heap.size :=
  ⟨⟨h.bb.cell 2 _ rfl, h.bfr.cell 0 _ rfl⟩, h.bb.lt, h.bfr.lt⟩
end
set_option maxRecDepth 100000 in
set_option maxHeartbeats 8000000 in
theorem begins1_stops (f : FT) (A : Option Addr) (c : Nat) (s : ByteArray) (bk bf n : Nat) (w0 w : World) (hn : 1 ≤ n) (hf : f.sorts.length ≤ 120) (hS : BgS w0 f A c s bk bf w) :
    SeqStopsK Fence.wide n Tryz.prog 143 #[.pointer (some ⟨bk, 0, none⟩), .pointer (some ⟨bf, 0, none⟩)] (fun x : BegT f.sorts s.data.toList => #[.int .i64 (x.1 : Nat), .int .i64 (txN f.sorts x.1 : Nat)]) (KpX w0 bk bf)
      (fun xs => xs = begTo f.sorts s.data.toList f.sorts.length) (fun _ => True) (f.sorts.length + 1) w := fun l J Jx W hW hJ hJx hY h0 => by
  have HS0 := Lib.hid (hS.ext' (hW : Ext w W))
  have HL := Lib.hid (begTo_len f.sorts s.data.toList)
  have HT : Hid (∀ k, begTo f.sorts s.data.toList (k + 1) = if h : k < f.sorts.length ∧ fitB (f.sorts.getD k TS.zero) s.data.toList = true then begTo f.sorts s.data.toList k ++ [⟨k, h⟩] else begTo f.sorts s.data.toList k) := Lib.hid fun _ => rfl
  have HJ := Lib.hid hJ; have HJX := Lib.hid hJx; have HY := Lib.hid hY
  have HSZ := Lib.hid hS.fr.sz
  have HRT := Lib.hid hS.fr.rt
  clear hJ hJx hY hS hW
  obtain ⟨⟨k0, k1⟩, kl, kl2⟩ := HS0.out.at
  refine callsIn_of_wp Tryz.func143 rfl trivial ?_ rfl
  simp only [Tryz.ntmps143, List.size_toArray, List.length_cons, List.length_nil, Nat.reduceAdd, Nat.reduceSub, Array.replicate_succ, Array.replicate_zero, List.push_toArray, List.append_toArray, List.nil_append, List.cons_append]
  gi_wp2
  gi_loopw [10, 4, 5] (fun i _ _ wr => ∃ k : Nat, k ≤ f.sorts.length ∧ i = .int .i64 (k : Int) ∧ Hid (J (begTo f.sorts s.data.toList k) wr) ∧ Hid (BgS w0 f A c s bk bf wr)) (fun i _ _ _ => f.sorts.length - (intOf i).toNat)
  case atStart => exact ⟨0, by omega, by simp, Lib.hid h0, HS0⟩
  case round =>
    obtain ⟨k, hk, rfl, HJS, HS⟩ := hrel
    clear k0 k1 kl kl2 h0 HS0
    obtain ⟨⟨k0, k1⟩, kl, kl2⟩ := HS.out.at
    by_cases hlt : k < f.sorts.length
    case neg =>
      obtain rfl : k = f.sorts.length := by omega
      have i1 : ¬ (f.sorts.length : Int) < (f.sorts.length : Int) := by omega
      gi_wp2
      go_end0
      exact ⟨⟨_, rfl⟩, .inl (HJ.out _ _ _ none HJS.out (Ext.grows (by repeat (first | exact Ext.refl _ | assumption | refine Ext.alloc ?_ _ | refine Ext.drew ?_ | refine Ext.drewN ?_ _ | (refine Ext.setCell ?_ (by simp <;> omega) _) | refine Ext.trans ?_ (by assumption)))) (fun _ e => by cases e))⟩
    case pos =>
      have i1 : (k : Int) < (f.sorts.length : Int) := by omega
      obtain ⟨sb, so, hA, hsb, hsc⟩ := (HRT.out.ext HS.out.ext).2.2 (by omega)
      obtain ⟨c0, c1, c2, c3⟩ := hsc k hlt
      have hsz := HSZ.out k hlt
      have HH : Hid (fitB (f.sorts.getD k TS.zero) s.data.toList = (decide ((f.sorts.getD k TS.zero).kind ≠ 3) && decide (s.data.toList.take (f.sorts.getD k TS.zero).text.size = (f.sorts.getD k TS.zero).text.data.toList))) := Lib.hid rfl
      have CP := Lib.hid fun W => hasPre_any s (f.sorts.getD k TS.zero).text W
      have htl : (f.sorts.getD k TS.zero).text.data.toList.length = (f.sorts.getD k TS.zero).text.size := by simp
      rw [htl] at CP
      have HTN : Hid (txN f.sorts k = (f.sorts.getD k TS.zero).text.size) := Lib.hid rfl
      subst hA
      clear hsc htl
      generalize hx : f.sorts.getD k TS.zero = x at *
      have HX := Lib.hid hx
      obtain ⟨tn, tt, tk, tw⟩ := x
      simp only at c0 c1 c2 c3 hsz CP HH HTN
      obtain ⟨pb, hpb⟩ : ∃ b, decide (s.data.toList.take tt.size = tt.data.toList) = b := ⟨_, rfl⟩
      rw [hpb] at CP HH
      clear hpb hx
      obtain ⟨-, hsz2, -, -⟩ := hsz
      by_cases hk3 : tk = 3
      case pos =>
        subst hk3
        have HTK : Hid (begTo f.sorts s.data.toList (k + 1) = begTo f.sorts s.data.toList k) := Lib.hid (by rw [HT.out, dif_neg (fun h => absurd h.2 (by rw [HX.out, HH.out]; simp))])
        gi_wp2_with (first | (gi_at_call 144; refine CallsIn.mono (callsIn_wide.2 (CP.out _)) ?_; rintro e w4 ⟨rfl, rfl⟩) | gi_in)
        go_roundw
        case rel => exact ⟨k + 1, by omega, by go_num, Lib.hid (by rw [HTK.out]; exact HJ.out _ _ _ none HJS.out (Ext.grows (by repeat (first | exact Ext.refl _ | assumption | refine Ext.alloc ?_ _ | refine Ext.drew ?_ | refine Ext.drewN ?_ _ | (refine Ext.setCell ?_ (by simp <;> omega) _) | refine Ext.trans ?_ (by assumption)))) (fun _ e => by cases e)), Lib.hid (HS.out.ext' (by repeat (first | exact Ext.refl _ | assumption | refine Ext.alloc ?_ _ | refine Ext.drew ?_ | refine Ext.drewN ?_ _ | (refine Ext.setCell ?_ (by simp <;> omega) _) | refine Ext.trans ?_ (by assumption))))⟩
        case measure => simp [intOf]; omega
      case neg =>
        have hk3' : decide (tk ≠ 3) = true := decide_eq_true hk3
        rw [hk3'] at HH
        clear hk3'
        cases pb
        case false =>
          have HTK : Hid (begTo f.sorts s.data.toList (k + 1) = begTo f.sorts s.data.toList k) := Lib.hid (by rw [HT.out, dif_neg (fun h => absurd h.2 (by rw [HX.out, HH.out]; simp))])
          gi_wp2_with (first | (gi_at_call 144; refine CallsIn.mono (callsIn_wide.2 (CP.out _)) ?_; rintro e w4 ⟨rfl, rfl⟩) | gi_in)
          go_roundw
          case rel => exact ⟨k + 1, by omega, by go_num, Lib.hid (by rw [HTK.out]; exact HJ.out _ _ _ none HJS.out (Ext.grows (by repeat (first | exact Ext.refl _ | assumption | refine Ext.alloc ?_ _ | refine Ext.drew ?_ | refine Ext.drewN ?_ _ | (refine Ext.setCell ?_ (by simp <;> omega) _) | refine Ext.trans ?_ (by assumption)))) (fun _ e => by cases e)), Lib.hid (HS.out.ext' (by repeat (first | exact Ext.refl _ | assumption | refine Ext.alloc ?_ _ | refine Ext.drew ?_ | refine Ext.drewN ?_ _ | (refine Ext.setCell ?_ (by simp <;> omega) _) | refine Ext.trans ?_ (by assumption))))⟩
          case measure => simp [intOf]; omega
        case true =>
          have hht : k < f.sorts.length ∧ fitB (f.sorts.getD k TS.zero) s.data.toList = true := ⟨hlt, by rw [HX.out, HH.out]; rfl⟩
          have HTK : Hid (begTo f.sorts s.data.toList (k + 1) = begTo f.sorts s.data.toList k ++ [⟨k, hht⟩]) := Lib.hid (by rw [HT.out, dif_pos hht])
          have hxy : Ext wr (wr.alloc (.cells #[.string tn, .string tt, .int .i64 tk, .int .i64 tw] 88)) := (by repeat (first | exact Ext.refl _ | assumption | refine Ext.alloc ?_ _ | refine Ext.drew ?_ | refine Ext.drewN ?_ _ | (refine Ext.setCell ?_ (by simp <;> omega) _) | refine Ext.trans ?_ (by assumption)))
          have HJ2 := Lib.hid (HJ.out _ _ _ none HJS.out (Ext.grows hxy) (fun _ e => by cases e))
          have HS2 := Lib.hid (HS.out.ext' hxy)
          obtain ⟨fn, tmps, assign, body, hy, hR⟩ := HY.out _ ⟨k, hht⟩ _ HJ2.out (by have := HL.out k; omega)
          have HR := Lib.hid hR
          simp only [HTN.out] at hy
          clear hR hxy
          gi_wp2_with (first | (gi_at_call 144; refine CallsIn.mono (callsIn_wide.2 (CP.out _)) ?_; rintro e w4 ⟨rfl, rfl⟩) | gi_in)
          refine HR.out.mono ?_
          rintro e W3 (⟨rfl, hJ3, hk3⟩ | ⟨rfl, hJx3⟩)
          · rw [← HTK.out] at hJ3
            have HJ3 := Lib.hid hJ3; have HS3 := Lib.hid (HS2.out.kp hk3); clear hJ3 hk3
            gi_wp2
            go_roundw
            case rel => exact ⟨k + 1, by omega, by go_num, HJ3, HS3⟩
            case measure => simp [intOf]; omega
          · gi_wp2
            refine bodyPost_ret (results_none rfl _ _ _) rfl ?_
            exact ⟨⟨_, rfl⟩, .inr ⟨_, trivial, hJx3⟩⟩
end Go.Proofs.YtccdnieoaejgdaaGreatDoor
namespace Go.Proofs.YtccdnieoaejgdaaGreatDoor
open Go.RowKit

def barP (a n : Int) (p : Int) : Bool := decide (a < p) && decide (p < a + n)
theorem barIn_idx (zs : List Int) (a n : Int) : (idxOf (barP a n) zs zs.length).isSome = barIn zs a n := by
  rw [Bool.eq_iff_iff, idxOf_isSome]
  unfold barIn
  rw [List.any_eq_true]
  constructor
  · rintro ⟨k, hk, hp⟩
    refine ⟨zs.getD k 0, ?_, hp⟩
    rw [List.getD_eq_getElem?_getD, List.getElem?_eq_getElem hk]; exact List.getElem_mem _
  · rintro ⟨z, hz, hp⟩
    obtain ⟨k, hk, rfl⟩ := List.mem_iff_getElem.1 hz
    refine ⟨k, hk, ?_⟩
    rw [List.getD_eq_getElem?_getD, List.getElem?_eq_getElem hk]; exact hp
theorem barred1_any (p a n : Int) (g h : Nat) (w : World) (h1 : w.cell? ⟨g, 0, none⟩ = some (.int .i64 a)) (hg : g < w.heap.size) (h2 : w.cell? ⟨h, 0, none⟩ = some (.int .i64 n)) (hh : h < w.heap.size) (ha : 0 ≤ a ∧ a ≤ 1000) (hn : 0 ≤ n ∧ n ≤ 1000) :
    Calls Tryz.prog 128 #[.int .i64 p, .pointer (some ⟨g, 0, none⟩), .pointer (some ⟨h, 0, none⟩)] w (Same (.bool (barP a n p)) w) := by
  have u1 : IntKind.i64.wrap (a + n) = a + n := IntWalk.i64_in _ (by omega)
  have HP : Hid (barP a n p = (decide (a < p) && decide (p < a + n))) := Lib.hid rfl
  by_cases h3 : a < p
  · rw [decide_eq_true h3, Bool.true_and] at HP
    go_enter Tryz.func128, Tryz.ntmps128
    go_wp2
    go_ret
    exact ⟨by rw [HP.out]; rfl, rfl⟩
  · rw [decide_eq_false h3, Bool.false_and] at HP
    go_enter Tryz.func128, Tryz.ntmps128
    go_wp2
    go_ret
    exact ⟨by rw [HP.out]; rfl, rfl⟩
theorem barred_any (A : Option Addr) (c : Nat) (zs : List Int) (a n : Int) (w : World) (hz : RI w A zs.length zs) (ha : 0 ≤ a ∧ a ≤ 1000) (hn : 0 ≤ n ∧ n ≤ 1000) :
    Calls Tryz.prog 98 #[.slice A zs.length c, .int .i64 a, .int .i64 n] w (Ret (.bool (barIn zs a n)) w) := by
  have HZ := Lib.hid hz
  have HB := Lib.hid (barIn_idx zs a n)
  have CC : Hid (∀ W, Ext ((w.alloc (.cells #[.int .i64 a] 3)).alloc (.cells #[.int .i64 n] 3)) W → Calls Tryz.prog 127 #[.slice A zs.length c, .func (.func 128) #[] #[.pointer (some ⟨w.heap.size, 0, none⟩), .pointer (some ⟨w.heap.size + 1, 0, none⟩)]] W (Same (.bool (idxOf (barP a n) zs zs.length).isSome) W)) := Lib.hid fun W hx => by
    have h1 := (Blk.new w 3 #[.int .i64 a]).alloc (.cells #[.int .i64 n] 3)
    have h2 := Blk.new1 w (.cells #[.int .i64 a] 3) 3 #[.int .i64 n]
    refine containsFunc_any 128 _ (fun _ _ => by kernel_rfl) (barP a n) A zs.length c zs W (hz.ext ((((Ext.refl w).alloc _).alloc _).trans hx)) fun W2 z hx2 => ?_
    have h3 := h1.ext (hx.trans hx2); have h4 := h2.ext (hx.trans hx2)
    exact barred1_any z a n _ _ W2 (h3.cell 0 _ rfl) h3.lt (h4.cell 0 _ rfl) h4.lt ha hn
  clear hz
  go_enter Tryz.func98, Tryz.ntmps98
  go_wp2_with (first | (go_at_call 127; refine Calls.mono (CC.out _ ?_) ?_; (exact (by repeat (first | exact Ext.refl _ | assumption | refine Ext.alloc ?_ _ | refine Ext.drew ?_ | refine Ext.drewN ?_ _ | (refine Ext.setCell ?_ (by simp <;> omega) _) | refine Ext.trans ?_ (by assumption)))); rintro e w1 ⟨rfl, rfl⟩))
  go_ret
  exact Ret.mk' (by rw [← HB.out]; rfl) (by repeat (first | exact Ext.refl _ | assumption | refine Ext.alloc ?_ _ | refine Ext.drew ?_ | refine Ext.drewN ?_ _ | (refine Ext.setCell ?_ (by simp <;> omega) _) | refine Ext.trans ?_ (by assumption)))
end Go.Proofs.YtccdnieoaejgdaaGreatDoor
namespace Go.Proofs.YtccdnieoaejgdaaGreatDoor
open Go.RowKit Go.Shelf

theorem StepZ.pushI {ops : Array Oper} {Ψ : Value → World → Prop} {a : Act} {o : Oper} {w : World} (hgd : o.guard = none) (s x : Operand) (ho : o.op = .call { callee := .builtin .append, args := #[s, x], argTypes := #[27, 27] })
    (base : Nat) (v : Value) (zs : List Int) (hs : a.eval s = v) (hown : Own w base v zs) (g0 : Nat) (z : Int) (hx : a.eval x = .slice (some ⟨g0, 0, none⟩) 1 1) (hb : w.cell? ⟨g0, 0, none⟩ = some (.int .i64 z)) (hlen : zs.length ≤ 1000000) (hbase : base ≤ w.heap.size)
    (h : ∀ v' w', Own w' base v' (zs ++ [z]) → w.grownBy w' v.ownBlock → (∀ k, v'.ownBlock = some k → v.ownBlock = some k ∨ k = w.heap.size) → Ψ v' w') : StepZ Tryz.prog ops Ψ a o w := by
  refine StepZ.go (by simp [Region.wanted, hgd]) ?_
  obtain ⟨i0, hi, hz0, hz1, hz2⟩ := info_parts intInfo
  obtain ⟨g, cap, w', hr, h2, h3, h4, _⟩ := run_append_lies (P := Tryz.prog) w 27 o.type base 3 i0 (.int .i64 0) 1 8 Tryz.underlying27 hi hz0 hz1 hz2 rfl (by decide) v zs.length _ hown ⟨g0, 0, none⟩ 1 1 [.int .i64 z] rfl
    (fun j u hj => by match j, hj with | 0, hj => simp at hj; subst hj; simpa [Addr.add] using hb) (fun u hu => by simp at hu; subst hu; rfl) (by decide) (by unfold maxLen; omega) (by omega) hbase _ rfl
  unfold execOp
  simp only [ho, resolve, invoke, builtin, Sem.run_bind, Sem.run_pure, Result.andThen_ok, List.map_toArray, List.map_cons, List.map_nil, hs, hx, hr]
  exact h _ w' (by unfold Own; simpa using h2) h3 (fun k e => by
    have e : g = k := by simpa [Value.ownBlock] using e
    subst e; exact h4)
theorem Blk.grownB {W W' : World} {g : Nat} {row : Option Nat} {t : TypeId} {cs : Array Value} (h : Blk W g t cs) (hg : W.grownBy W' row) (hn : row ≠ some g) : Blk W' g t cs := (hg.block g h.lt (fun e => hn e.symm)).trans h
theorem set_grownB (W : World) (p : Addr) (v : Value) : W.grownBy (W.setCell p v) (some p.block) :=
  ⟨rfl, rfl, rfl, by simp [World.setCell], fun k _ hn => Below.heap_setCell W p v k (fun e => hn (by rw [e]))⟩
theorem Own.keptB {W W' : World} {base : Nat} {v : Value} {zs : List Int} {row : Option Nat} (h : Own W base v zs) (hg : W.grownBy W' row) (hn : ∀ k, v.ownBlock = some k → row ≠ some k) : Own W' base v zs :=
  World.ownsRow.kept h hg (by
    cases hv : v.ownBlock with
    | none => exact .inl rfl
    | some g => exact .inr (fun e => hn g hv e.symm))
theorem Marks.grownB {n0 : Nat} {Ds : List Nat} {W W' : World} {row : Option Nat} (h : Marks n0 Ds W) (hg : W.grownBy W' row) (hn : ∀ k, row = some k → ∃ t cs, Blk W k t cs) : Marks n0 Ds W' :=
  ⟨h.1, fun D hD => by
    obtain ⟨q1, q2, q3⟩ := h.2 D hD
    refine ⟨q1, Nat.lt_of_lt_of_le q2 hg.size, (hg.block D q2 fun e => ?_).trans q3⟩
    obtain ⟨t, cs, hb⟩ := hn D e.symm
    unfold Blk at hb
    rw [q3] at hb; cases hb⟩
theorem blk_neT {W : World} {g g' : Nat} {t t' : TypeId} {cs cs' : Array Value} (h : Blk W g t cs) (h' : Blk W g' t' cs') (ht : t ≠ t') : g ≠ g' := by
  rintro rfl
  unfold Blk at h h'
  rw [h] at h'
  simp at h'
  exact ht h'.2
theorem blk_ownF {α : Type} (B k : Nat) (t : TypeId) (cs : α → Array Value) : OwnFrom B (fun s W => Blk W k t (cs s)) := fun _ X Y row hb hg hr =>
  (hg.block k hb.lt (fun e => by obtain ⟨_, o, ho, hc⟩ := hr k e.symm; unfold Blk at hb; rw [hb] at ho; cases ho; cases hc)).trans hb
/-- The loop of set and fewest: the boxes of the printer and of the bars, the cell of the place, the sorts so far, the marks. -/
structure StW (w : World) (PC : Array Value) (BV : Value) (ab : Nat) (a : Int) (v : Value) (zs : List Int) (Ds : List Nat) (W : World) : Prop where
  ext : Ext w W
  pb : Blk W w.heap.size 126 PC
  bb : Blk W (w.heap.size + 1) 27 #[BV]
  at_ : Blk W ab 3 #[.int .i64 a]
  lo : w.heap.size + 2 ≤ ab
  own : Own W (w.heap.size + 2) v zs
  ne : ∀ k, v.ownBlock = some k → k ≠ ab
  ms : Marks w.heap.size Ds W
section
variable {w W W' : World} {PC : Array Value} {BV v : Value} {ab : Nat} {a : Int} {zs : List Int} {Ds : List Nat}
theorem Own.is {base : Nat} (h : Own W base v zs) {k : Nat} (hk : v.ownBlock = some k) : ∃ cs, Blk W k 3 cs := own_is h hk
theorem StW.next (h : StW w PC BV ab a v zs Ds W) (hx : Ext W W') : StW w PC BV ab a v zs Ds W' :=
  ⟨h.ext.trans hx, h.pb.ext hx, h.bb.ext hx, h.at_.ext hx, h.lo, h.own.ext hx, h.ne, h.ms.ext hx⟩
theorem StW.from (B : Nat) {α : Type} (hB : ∀ D, D ∈ Ds → D < B) (hw : w.heap.size ≤ B) : OwnFrom B (fun (_ : α) W => StW w PC BV ab a v zs Ds W) := fun s X Y row h hg hr => by
  have keep : ∀ {k : Nat} {t : TypeId} {cs : Array Value}, Blk X k t cs → row ≠ some k := fun {k t cs} hb e => by
    obtain ⟨_, o, ho, hc⟩ := hr k e; unfold Blk at hb; rw [hb] at ho; cases ho; cases hc
  refine ⟨h.ext.grown hg (fun k e => by have := (hr k e).1; omega), h.pb.grownB hg (keep h.pb), h.bb.grownB hg (keep h.bb), h.at_.grownB hg (keep h.at_), h.lo, h.own.keptB hg (fun k hk => by obtain ⟨cs, hb⟩ := h.own.is hk; exact keep hb), h.ne, Marks.own (α := α) w.heap.size B Ds hB s X Y row h.ms hg hr⟩
/-- A store into a cell of this round's own. -/
theorem StW.put (h : StW w PC BV ab a v zs Ds W) {q : Nat} {z : Value} {c9 : Array Value} (hq : Blk W q 3 c9) (h1 : q ≠ ab) (h2 : ∀ k, v.ownBlock = some k → k ≠ q) (h3 : w.heap.size ≤ q) : StW w PC BV ab a v zs Ds (W.setCell ⟨q, 0, none⟩ z) := by
  have hg := set_grownB W ⟨q, 0, none⟩ z
  refine ⟨h.ext.setCell (p := ⟨q, 0, none⟩) h3 _, h.pb.far (p := ⟨q, 0, none⟩) (fun e => ?_) _, h.bb.far (p := ⟨q, 0, none⟩) (fun e => ?_) _, h.at_.far (p := ⟨q, 0, none⟩) (fun e => h1 e.symm) _, h.lo, h.own.keptB hg (fun k hk e => h2 k hk (Option.some.inj e).symm), h.ne, h.ms.grownB hg (fun k e => by cases e; exact ⟨_, _, hq⟩)⟩
  · have hp := h.pb; rw [e] at hp; unfold Blk at hp hq; rw [hp] at hq; cases hq
  · have hp := h.bb; rw [e] at hp; unfold Blk at hp hq; rw [hp] at hq; cases hq
theorem StW.cons (h : StW w PC BV ab a v zs Ds W) {D : Nat} (hD : W.heap[D]? = some (.deferred (some []))) (h0 : w.heap.size ≤ D) (hn : ∀ E, E ∈ Ds → E < D) : StW w PC BV ab a v zs (D :: Ds) W := ⟨h.ext, h.pb, h.bb, h.at_, h.lo, h.own, h.ne, h.ms.cons hD h0 hn⟩
end
/-- The round's end: a sort is appended, the place goes on; b: appended, c: the place is stored. -/
structure S12 (w : World) (PC : Array Value) (BV : Value) (ab : Nat) (a a2 : Int) (v : Value) (zs : List Int) (Ds : List Nat) (qb qm : Nat) (z m : Int) (b c : Bool) (W : World) : Prop where
  ext : Ext w W
  pb : Blk W w.heap.size 126 PC
  bb : Blk W (w.heap.size + 1) 27 #[BV]
  at_ : Blk W ab 3 #[.int .i64 (if c = true then a2 else a)]
  lo : w.heap.size + 2 ≤ ab
  own : b = false → Own W (w.heap.size + 2) v zs
  ne : ∀ k, v.ownBlock = some k → k ≠ ab ∧ k ≠ qb ∧ k ≠ qm
  ms : Marks w.heap.size Ds W
  b0 : Blk W qb 3 #[.int .i64 z]
  m0 : Blk W qm 3 #[.int .i64 m]
  nb : ab ≠ qb ∧ ab ≠ qm
section
variable {w W W' : World} {PC : Array Value} {BV v : Value} {ab qb qm : Nat} {a a2 z m : Int} {zs : List Int} {Ds : List Nat} {b c : Bool}
theorem S12.next (h : S12 w PC BV ab a a2 v zs Ds qb qm z m b c W) (hx : Ext W W') : S12 w PC BV ab a a2 v zs Ds qb qm z m b c W' :=
  ⟨h.ext.trans hx, h.pb.ext hx, h.bb.ext hx, h.at_.ext hx, h.lo, fun e => (h.own e).ext hx, h.ne, h.ms.ext hx, h.b0.ext hx, h.m0.ext hx, h.nb⟩
theorem S12.app (h : S12 w PC BV ab a a2 v zs Ds qb qm z m false c W) (hg : W.grownBy W' v.ownBlock) : S12 w PC BV ab a a2 v zs Ds qb qm z m true c W' := by
  have ho := h.own rfl
  have hnp : v.ownBlock ≠ some w.heap.size := fun e => by have := ho.base_le _ e; omega
  have hnb : v.ownBlock ≠ some (w.heap.size + 1) := fun e => by have := ho.base_le _ e; omega
  exact ⟨h.ext.grown hg (fun k e => by have := ho.base_le _ e; omega), h.pb.grownB hg hnp, h.bb.grownB hg hnb, h.at_.grownB hg (fun e => (h.ne _ e).1 rfl), h.lo, fun e => (by cases e), h.ne,
    h.ms.grownB hg (fun k e => by obtain ⟨cs, hb⟩ := ho.is e; exact ⟨_, cs, hb⟩), h.b0.grownB hg (fun e => (h.ne _ e).2.1 rfl), h.m0.grownB hg (fun e => (h.ne _ e).2.2 rfl), h.nb⟩
theorem S12.sto (h : S12 w PC BV ab a a2 v zs Ds qb qm z m b false W) : S12 w PC BV ab a a2 v zs Ds qb qm z m b true (W.setCell ⟨ab, 0, none⟩ (.int .i64 a2)) := by
  have hg := set_grownB W ⟨ab, 0, none⟩ (.int .i64 a2)
  have hl := h.lo
  exact ⟨h.ext.setCell (p := ⟨ab, 0, none⟩) (by simp only; omega) _, h.pb.grownB hg (fun e => by have := Option.some.inj e; simp only at this; omega), h.bb.grownB hg (fun e => by have := Option.some.inj e; simp only at this; omega), h.at_.set_ 0 _, h.lo, fun e => (h.own e).keptB hg (fun k hk e2 => (h.ne k hk).1 (Option.some.inj e2).symm), h.ne,
    h.ms.grownB hg (fun k e => by cases e; exact ⟨_, _, h.at_⟩), h.b0.grownB hg (fun e => h.nb.1 (Option.some.inj e)), h.m0.grownB hg (fun e => h.nb.2 (Option.some.inj e)), h.nb⟩
end
/-- The literal that is appended. -/
def LitI (w : World) (ab : Nat) (z : Int) (x : Value) (W : World) : Prop := ∃ g, x = .slice (some ⟨g, 0, none⟩) 1 1 ∧ Blk W g 3 #[.int .i64 z] ∧ g ≠ ab ∧ w.heap.size ≤ g
/-- The slice behind the append. -/
def AppI (w : World) (ab : Nat) (ys : List Int) (x : Value) (W : World) : Prop := Own W (w.heap.size + 2) x ys ∧ ∀ k, x.ownBlock = some k → k ≠ ab
theorem LitI.ext {w W W' : World} {ab : Nat} {z : Int} {x : Value} (h : LitI w ab z x W) (hx : Ext W W') : LitI w ab z x W' := let ⟨g, h1, h2, h3, h4⟩ := h; ⟨g, h1, h2.ext hx, h3, h4⟩
theorem LitI.sto {w W : World} {ab : Nat} {z : Int} {x u : Value} (h : LitI w ab z x W) : LitI w ab z x (W.setCell ⟨ab, 0, none⟩ u) := let ⟨g, h1, h2, h3, h4⟩ := h; ⟨g, h1, h2.far (p := ⟨ab, 0, none⟩) (by simpa using h3) _, h3, h4⟩
theorem AppI.ext {w W W' : World} {ab : Nat} {ys : List Int} {x : Value} (h : AppI w ab ys x W) (hx : Ext W W') : AppI w ab ys x W' := ⟨h.1.ext hx, h.2⟩
theorem AppI.sto {w W : World} {ab : Nat} {ys : List Int} {x u : Value} (h : AppI w ab ys x W) : AppI w ab ys x (W.setCell ⟨ab, 0, none⟩ u) :=
  ⟨h.1.keptB (set_grownB W ⟨ab, 0, none⟩ u) (fun k hk e => h.2 k hk (Option.some.inj e).symm), h.2⟩
/-- A slice and whether there is one. -/
def RetSB (o : Option (List Int)) (w : World) (e : Ending) (w' : World) : Prop := ∃ A c, e = .returned (.tuple #[.slice A (o.getD []).length c, .bool o.isSome]) ∧ SL w' w.heap.size A c (o.getD []) ∧ Ext w w'
end Go.Proofs.YtccdnieoaejgdaaGreatDoor
namespace Go.Proofs.YtccdnieoaejgdaaGreatDoor
open Go.RowKit

theorem strElt : Elt 22 9 1 16 (.string ⟨#[]⟩) := ⟨Tryz.underlying22, by kernel_rfl, rfl, by decide, by decide⟩
section
variable {sl el : TypeId} {size bytes : Nat} {z : Value} (K : Elt sl el size bytes z)
include K
/-- One element is appended to a slice of one's own; where the new slice lies. -/
theorem StepZ.appendE {ops : Array Oper} {Ψ : Value → World → Prop} {a : Act} {o : Oper} {w : World} (hgd : o.guard = none) (s x : Operand) (ho : o.op = .call { callee := .builtin .append, args := #[s, x], argTypes := #[sl, sl] })
    (base n : Nat) (v : Value) (xs : List Value) (hs : a.eval s = v) (hown : w.ownsRow base el size v n xs) (g0 : Nat) (u : List Value) (hx : a.eval x = .slice (some ⟨g0, 0, none⟩) 1 1) (hl : u.length = size) (hb : ∀ j y, u[j]? = some y → w.cell? ⟨g0, j, none⟩ = some y) (h1 : ∀ y ∈ u, y.oneCell' = true) (hlen : n ≤ 1000000) (hbase : base ≤ w.heap.size)
    (h : ∀ v' w', w'.ownsRow base el size v' (n + 1) (xs ++ u) → w.grownBy w' v.ownBlock → (∀ k, v'.ownBlock = some k → v.ownBlock = some k ∨ k = w.heap.size) → Ψ v' w') : StepZ Tryz.prog ops Ψ a o w := by
  refine StepZ.go (by simp [Region.wanted, hgd]) ?_
  have hle := K.le
  obtain ⟨i0, hi, hz0, hz1, hz2⟩ := K.parts
  obtain ⟨g, cap, w', hr, h2, h3, h4, _⟩ := run_append_lies (P := Tryz.prog) w sl o.type base el i0 z size bytes K.und hi hz0 hz1 hz2 K.zs K.pos v n _ hown ⟨g0, 0, none⟩ 1 1 u (by rw [hl, Nat.one_mul])
    (fun j y hj => by
      unfold Addr.add
      by_cases h0 : j = 0
      · subst h0; exact hb 0 y hj
      · rw [if_neg h0, Nat.zero_add]; exact hb j y hj) h1 (by decide) (by unfold maxLen; omega) (by
        have h9 : (n + 1) * bytes ≤ 1000001 * 1000 := Nat.mul_le_mul (by omega) hle
        omega) hbase _ rfl
  unfold execOp
  simp only [ho, resolve, invoke, builtin, Sem.run_bind, Sem.run_pure, Result.andThen_ok, List.map_toArray, List.map_cons, List.map_nil, hs, hx, hr]
  exact h _ w' h2 h3 (fun k e => by
    have e : g = k := by simpa [Value.ownBlock] using e
    subst e; exact h4)
end
def strVs (ws : List (List UInt8)) : List Value := ws.map fun l => .string (strL l)
def OwnW (W : World) (base : Nat) (v : Value) (ws : List (List UInt8)) : Prop := W.ownsRow base 9 1 v ws.length (strVs ws)
theorem OwnW.nil (W : World) (base : Nat) : OwnW W base (.slice none 0 0) [] := World.ownsRow_nil _ _ _ _
theorem OwnW.ext {W W' : World} {base : Nat} {v : Value} {ws : List (List UInt8)} (h : OwnW W base v ws) (hx : Ext W W') : OwnW W' base v ws := own_later h hx
theorem OwnW.keptB {W W' : World} {base : Nat} {v : Value} {ws : List (List UInt8)} {row : Option Nat} (h : OwnW W base v ws) (hg : W.grownBy W' row) (hn : ∀ k, v.ownBlock = some k → row ≠ some k) : OwnW W' base v ws :=
  World.ownsRow.kept h hg (by
    cases hv : v.ownBlock with
    | none => exact .inl rfl
    | some g => exact .inr (fun e => hn g hv e.symm))
theorem OwnW.is {W : World} {base : Nat} {v : Value} {ws : List (List UInt8)} (h : OwnW W base v ws) {k : Nat} (hk : v.ownBlock = some k) : ∃ cs, Blk W k 9 cs := own_is h hk
theorem OwnW.slice {W : World} {base : Nat} {v : Value} {ws : List (List UInt8)} (h : OwnW W base v ws) : ∃ A n c, v = .slice A n c := by
  rcases h.2 with ⟨k1, k2⟩ | ⟨g, cap, cur, hv, _⟩
  · exact ⟨none, 0, 0, k1⟩
  · exact ⟨_, _, _, hv⟩
/-- The reader: the words so far and what is carried on. -/
structure RdS (w0 : World) (f : FT) (A : Option Addr) (c rb : Nat) (v : Value) (ws : List (List UInt8)) (cr : List UInt8) (W : World) : Prop where
  ext : Ext w0 W
  rd : Blk W rb 148 (rdCells f A c v cr)
  lo : w0.heap.size ≤ rb
  own : OwnW W w0.heap.size v ws
/-- .. and, while a line is read, the word, and the box of the reader. -/
structure RdW (w0 : World) (f : FT) (A : Option Addr) (c rb wb xb : Nat) (v : Value) (ws : List (List UInt8)) (cr wd : List UInt8) (W : World) : Prop where
  r : RdS w0 f A c rb v ws cr W
  wd : Blk W wb 9 #[.string (strL wd)]
  bx : Blk W xb 146 #[.pointer (some ⟨rb, 0, none⟩)]
  lw : w0.heap.size ≤ wb
  ne : ∀ k, v.ownBlock = some k → k ≠ wb
section
variable {w0 W W' : World} {f : FT} {A : Option Addr} {c rb wb xb : Nat} {v : Value} {ws : List (List UInt8)} {cr wd : List UInt8}
theorem RdS.next (h : RdS w0 f A c rb v ws cr W) (hx : Ext W W') : RdS w0 f A c rb v ws cr W' := ⟨h.ext.trans hx, h.rd.ext hx, h.lo, h.own.ext hx⟩
theorem RdW.next (h : RdW w0 f A c rb wb xb v ws cr wd W) (hx : Ext W W') : RdW w0 f A c rb wb xb v ws cr wd W' := ⟨h.r.next hx, h.wd.ext hx, h.bx.ext hx, h.lw, h.ne⟩
/-- The word is stored. -/
theorem RdW.word (h : RdW w0 f A c rb wb xb v ws cr wd W) (wd' : List UInt8) : RdW w0 f A c rb wb xb v ws cr wd' (W.setCell ⟨wb, 0, none⟩ (.string (strL wd'))) := by
  have hg := set_grownB W ⟨wb, 0, none⟩ (.string (strL wd'))
  refine ⟨⟨h.r.ext.setCell (p := ⟨wb, 0, none⟩) h.lw _, h.r.rd.far (p := ⟨wb, 0, none⟩) (blk_neT h.r.rd h.wd (by decide)) _, h.r.lo, h.r.own.keptB hg (fun k hk e => h.ne k hk (Option.some.inj e).symm)⟩, h.wd.set_ 0 _, h.bx.far (p := ⟨wb, 0, none⟩) (blk_neT h.bx h.wd (by decide)) _, h.lw, h.ne⟩
/-- What is carried on is stored. -/
theorem RdW.carry (h : RdW w0 f A c rb wb xb v ws cr wd W) (cr' : List UInt8) : RdW w0 f A c rb wb xb v ws cr' wd (W.setCell ⟨rb, 4, none⟩ (.string (strL cr'))) := by
  have hg := set_grownB W ⟨rb, 4, none⟩ (.string (strL cr'))
  refine ⟨⟨h.r.ext.setCell (p := ⟨rb, 4, none⟩) h.r.lo _, ?_, h.r.lo, h.r.own.keptB hg (fun k hk e => ?_)⟩, h.wd.far (p := ⟨rb, 4, none⟩) (blk_neT h.wd h.r.rd (by decide)) _, h.bx.far (p := ⟨rb, 4, none⟩) (blk_neT h.bx h.r.rd (by decide)) _, h.lw, h.ne⟩
  · exact h.r.rd.set_ 4 _
  · obtain ⟨cs, hb⟩ := h.r.own.is hk
    have h9 := Option.some.inj e
    simp only at h9
    exact blk_neT hb h.r.rd (by decide) h9.symm
end
end Go.Proofs.YtccdnieoaejgdaaGreatDoor
