/-
  Walk: whether a word with small letters is another one (the law's same); rules with one text more.
-/
import Derived.Test.YtccdnieoaejgdaaGreatDoorT2BG
import Derived.Test.YtccdnieoaejgdaaGreatDoorT2BI
set_option linter.unusedVariables false
set_option linter.unusedSimpArgs false
set_option linter.unusedSectionVars false
namespace Go.Proofs.YtccdnieoaejgdaaGreatDoor
open Go.RowKit Go.Lib

/-- What same answers: a word with small letters is itself. -/
def RetSame (a b : List UInt8) (w : World) (e : Ending) (w' : World) : Prop := ∃ v, e = .returned (.bool v) ∧ (low b = a → v = true) ∧ Ext w w'
theorem low_at (b : List UInt8) {k : Nat} (h : k < b.length) : (low b).getD k 0 = lowB (b.getD k 0) := by
  unfold low
  rw [List.getD_eq_getElem?_getD, List.getElem?_map, List.getElem?_eq_getElem h, List.getD_eq_getElem?_getD, List.getElem?_eq_getElem h]; rfl
theorem lowB_int (b : UInt8) : ((lowB b).toNat : Int) = (b.toNat : Int) ∧ ¬ (65 ≤ (b.toNat : Int) ∧ (b.toNat : Int) ≤ 90) ∨ ((lowB b).toNat : Int) = (b.toNat : Int) + 32 ∧ 65 ≤ (b.toNat : Int) ∧ (b.toNat : Int) ≤ 90 := by
  by_cases h : 65 ≤ (b.toNat : Int) ∧ (b.toNat : Int) ≤ 90
  · exact .inr ⟨lowB_val h, h⟩
  · left
    refine ⟨?_, h⟩
    unfold lowB
    rw [if_neg (by omega)]
set_option maxRecDepth 100000 in
set_option maxHeartbeats 4000000 in
theorem same_any (a b : ByteArray) (w : World) (ha : a.size ≤ 100000) (hb : b.size ≤ 100000) : Calls Tryz.prog 34 #[.string a, .string b] w (RetSame a.data.toList b.data.toList w) := by
  have ha9 : a.size ≤ 9223372036854775807 := by omega
  have hb9 : b.size ≤ 9223372036854775807 := by omega
  have HLA : Hid (a.data.toList.length = a.size) := Lib.hid (by simp)
  have HLB : Hid (b.data.toList.length = b.size) := Lib.hid (by simp)
  by_cases hl : a.size = b.size
  case neg =>
    have i0 : ((a.size : Int) != (b.size : Int)) = true := by simp; omega
    have HE : Hid (low b.data.toList = a.data.toList → False) := Lib.hid fun e => hl (by rw [← HLA.out, ← HLB.out, ← low_len b.data.toList, e])
    have hl2 : ¬ (a.size : Int) = (b.size : Int) := by omega
    clear hl
    go_enter Tryz.func34, Tryz.ntmps34
    go_wp2
    go_ret
    exact ⟨false, rfl, fun e => (HE.out e).elim, (by repeat (first | exact Ext.refl _ | assumption | refine Ext.alloc ?_ _ | refine Ext.drew ?_ | refine Ext.drewN ?_ _ | (refine Ext.setCell ?_ (by simp <;> omega) _) | refine Ext.trans ?_ (by assumption)))⟩
  case pos =>
    have i0 : ((a.size : Int) != (b.size : Int)) = false := by simp; omega
    have hl2 : (a.size : Int) = (b.size : Int) := by omega
    have HL := Lib.hid hl
    have HBY : Hid (∀ k (h : k < a.size), (a[k].toNat : Int) = bya a.data.toList k) := Lib.hid (fun k h => bya_byte a k h)
    have HBZ : Hid (∀ k (h : k < b.size), (b[k].toNat : Int) = bya b.data.toList k) := Lib.hid (fun k h => bya_byte b k h)
    have HNX : Hid (∀ k, k < b.size → low b.data.toList = a.data.toList → bya a.data.toList k = bya b.data.toList k ∨ (bya a.data.toList k = bya b.data.toList k + 32 ∧ 65 ≤ bya b.data.toList k ∧ bya b.data.toList k ≤ 90)) := Lib.hid fun k hk e => by
      have h1 := low_at b.data.toList (k := k) (by rw [HLB.out]; exact hk)
      rw [e] at h1
      unfold bya
      rw [h1]
      rcases lowB_int (b.data.toList.getD k 0) with h | h
      · exact .inl h.1
      · exact .inr h
    clear hl
    go_enter Tryz.func34, Tryz.ntmps34
    go_upto_region 4 with fail
    go_loopw [5] (fun v5 wr => ∃ k : Nat, k ≤ b.size ∧ v5 = .int .i64 (k : Int) ∧ Hid (Ext w wr)) (fun v5 _ => b.size - (intOf v5).toNat)
    case atStart => exact ⟨0, Nat.zero_le _, rfl, Lib.hid (Ext.refl _)⟩
    case round =>
      obtain ⟨k, hk, rfl, HX⟩ := hrel
      by_cases hlt : k < b.size
      case neg =>
        obtain rfl : k = b.size := by omega
        have ik : ¬ (b.size : Int) < (b.size : Int) := by omega
        go_wp2
        go_ret
        exact ⟨true, rfl, fun _ => rfl, HX.out⟩
      case pos =>
        have hla : k < a.size := by rw [HL.out]; exact hlt
        have ik : (k : Int) < (b.size : Int) := by omega
        have ik2 : (k : Int) < (a.size : Int) := by omega
        have HNE := Lib.hid (HNX.out k hlt)
        rw [← HBY.out k hla, ← HBZ.out k hlt] at HNE
        generalize hx : (a[k].toNat : Int) = x at *
        generalize hy : (b[k].toNat : Int) = y at *
        by_cases e1 : x = y
        case pos =>
          have b1 : (x != y) = false := by simp [e1]
          subst e1
          go_upto_region 6 with fail
          go_quiet (fail)
          go_wp2
          go_roundw
          case rel => exact ⟨k + 1, by omega, by go_num, Lib.hid (HX.out.trans (by repeat (first | exact Ext.refl _ | assumption | refine Ext.alloc ?_ _ | refine Ext.drew ?_ | refine Ext.drewN ?_ _ | (refine Ext.setCell ?_ (by simp <;> omega) _) | refine Ext.trans ?_ (by assumption))))⟩
          case measure => simp [intOf]; omega
        case neg =>
          have b1 : (x != y) = true := by simpa using e1
          by_cases h65 : 65 ≤ y
          case neg =>
            go_upto_region 6 with fail
            go_quiet (fail)
            go_wp2
            go_ret
            exact ⟨false, rfl, fun e => absurd (HNE.out e) (by omega), HX.out.trans (by repeat (first | exact Ext.refl _ | assumption | refine Ext.alloc ?_ _ | refine Ext.drew ?_ | refine Ext.drewN ?_ _ | (refine Ext.setCell ?_ (by simp <;> omega) _) | refine Ext.trans ?_ (by assumption)))⟩
          case pos =>
            by_cases h90 : y ≤ 90
            case neg =>
              go_upto_region 6 with fail
              go_quiet (fail)
              go_wp2
              go_ret
              exact ⟨false, rfl, fun e => absurd (HNE.out e) (by omega), HX.out.trans (by repeat (first | exact Ext.refl _ | assumption | refine Ext.alloc ?_ _ | refine Ext.drew ?_ | refine Ext.drewN ?_ _ | (refine Ext.setCell ?_ (by simp <;> omega) _) | refine Ext.trans ?_ (by assumption)))⟩
            case pos =>
              have u1 : IntKind.u8.wrap (y + 97) = y + 97 := IntWalk.u8_in _ (by omega)
              have u2 : IntKind.u8.wrap (y + 97 - 65) = y + 32 := by rw [IntWalk.u8_in _ (by omega)]; omega
              by_cases e2 : x = y + 32
              case pos =>
                have b2 : (x == y + 32) = true := by simp [e2]
                clear e2
                go_upto_region 6 with fail
                go_quiet (fail)
                go_wp2
                go_roundw
                case rel => exact ⟨k + 1, by omega, by go_num, Lib.hid (HX.out.trans (by repeat (first | exact Ext.refl _ | assumption | refine Ext.alloc ?_ _ | refine Ext.drew ?_ | refine Ext.drewN ?_ _ | (refine Ext.setCell ?_ (by simp <;> omega) _) | refine Ext.trans ?_ (by assumption))))⟩
                case measure => simp [intOf]; omega
              case neg =>
                have b2 : (x == y + 32) = false := by rw [beq_eq_false_iff_ne]; exact e2
                go_upto_region 6 with fail
                go_quiet (fail)
                go_wp2
                go_ret
                exact ⟨false, rfl, fun e => absurd (HNE.out e) (by omega), HX.out.trans (by repeat (first | exact Ext.refl _ | assumption | refine Ext.alloc ?_ _ | refine Ext.drew ?_ | refine Ext.drewN ?_ _ | (refine Ext.setCell ?_ (by simp <;> omega) _) | refine Ext.trans ?_ (by assumption)))⟩
/-- Rules of the call's own. -/
structure Ow3 (W : World) (base : Nat) (a : RuA) (r : RU) : Prop where
  p : OwnW W base (.slice a.pa r.pats.length a.pc) (bytesOf r.pats)
  e : OwnW W base (.slice a.ea r.excs.length a.ec) (bytesOf r.excs)
  b : OwnW W base (.slice a.ba r.bars.length a.bc) (bytesOf r.bars)
  i : I64 r.left ∧ I64 r.right
  n : r.pats.length ≤ 1000000 ∧ r.excs.length ≤ 1000000 ∧ r.bars.length ≤ 1000000
structure OwR (W : World) (base : Nat) (a : RuA) (r : RU) : Prop where
  o : Ow3 W base a r
  pe : NeW (.slice a.pa r.pats.length a.pc) (.slice a.ea r.excs.length a.ec)
  pb : NeW (.slice a.pa r.pats.length a.pc) (.slice a.ba r.bars.length a.bc)
  eb : NeW (.slice a.ea r.excs.length a.ec) (.slice a.ba r.bars.length a.bc)
section
variable {W W' : World} {base : Nat} {a : RuA} {r : RU}
theorem Ow3.ext (h : Ow3 W base a r) (hx : Ext W W') : Ow3 W' base a r := ⟨h.p.ext hx, h.e.ext hx, h.b.ext hx, h.i, h.n⟩
theorem OwR.ext (h : OwR W base a r) (hx : Ext W W') : OwR W' base a r := ⟨h.o.ext hx, h.pe, h.pb, h.eb⟩
theorem Ow3.rur (h : Ow3 W base a r) : RuR W a r := ⟨CpV.rs h.p h.n.1, CpV.rs h.e h.n.2.1, CpV.rs h.b h.n.2.2, h.i.1, h.i.2⟩
theorem OwnW.farT {v u : Value} {ws : List (List UInt8)} {xb i : Nat} {T : TypeId} {cs : Array Value} (h : OwnW W base v ws) (hb : Blk W xb T cs) (hT : 9 ≠ T) : OwnW (W.setCell ⟨xb, i, none⟩ u) base v ws :=
  h.keptB (set_grownB W ⟨xb, i, none⟩ u) (fun k hk e => by
    obtain ⟨c9, hb9⟩ := h.is hk
    exact blk_neT hb9 hb hT (Option.some.inj e).symm)
theorem Ow3.sto {xb i : Nat} {u : Value} {cs : Array Value} (h : Ow3 W base a r) (hb : Blk W xb 24 cs) : Ow3 (W.setCell ⟨xb, i, none⟩ u) base a r :=
  ⟨h.p.farT hb (by decide), h.e.farT hb (by decide), h.b.farT hb (by decide), h.i, h.n⟩
theorem bytesOf_snoc (l : List ByteArray) (m : ByteArray) : bytesOf (l ++ [m]) = bytesOf l ++ [m.data.toList] := by unfold bytesOf; simp
theorem OwR.pushE {v' : Value} {m : ByteArray} (h : OwR W base a r) (hn : r.excs.length ≤ 1000) (hg : W.grownBy W' (Value.slice a.ea r.excs.length a.ec).ownBlock) (ho : OwnW W' base v' (bytesOf r.excs ++ [m.data.toList])) :
    ∃ A c, v' = .slice A (r.excs.length + 1) c ∧ Ow3 W' base ⟨a.pa, a.pc, A, c, a.ba, a.bc⟩ ⟨r.pats, r.excs ++ [m], r.bars, r.left, r.right⟩ := by
  rw [← bytesOf_snoc] at ho
  obtain ⟨A, c, rfl, _⟩ := OwnW.rs ho (by rw [List.length_append]; simp; omega)
  refine ⟨A, c, by rw [List.length_append]; rfl, h.o.p.keptB hg (fun k hk e => h.pe k hk e), ho, h.o.b.keptB hg (fun k hk e => h.eb k e hk), h.o.i, h.o.n.1, by rw [List.length_append]; simp; omega, h.o.n.2.2⟩
theorem OwR.pushP {v' : Value} {m : ByteArray} (h : OwR W base a r) (hn : r.pats.length ≤ 1000) (hg : W.grownBy W' (Value.slice a.pa r.pats.length a.pc).ownBlock) (ho : OwnW W' base v' (bytesOf r.pats ++ [m.data.toList])) :
    ∃ A c, v' = .slice A (r.pats.length + 1) c ∧ Ow3 W' base ⟨A, c, a.ea, a.ec, a.ba, a.bc⟩ ⟨r.pats ++ [m], r.excs, r.bars, r.left, r.right⟩ := by
  rw [← bytesOf_snoc] at ho
  obtain ⟨A, c, rfl, _⟩ := OwnW.rs ho (by rw [List.length_append]; simp; omega)
  refine ⟨A, c, by rw [List.length_append]; rfl, ho, h.o.e.keptB hg (fun k hk e => h.pe k e hk), h.o.b.keptB hg (fun k hk e => h.pb k e hk), h.o.i, by rw [List.length_append]; simp; omega, h.o.n.2.1, h.o.n.2.2⟩
end
/-- CopyRules, its value written out. -/
def RetCx (r : RU) (w : World) (e : Ending) (w' : World) : Prop := ∃ a, e = .returned (.agg #[.slice a.pa r.pats.length a.pc, .slice a.ea r.excs.length a.ec, .slice a.ba r.bars.length a.bc, .int .i64 r.left, .int .i64 r.right]) ∧ OwR w' w.heap.size a r ∧ Ext w w'
theorem copyRulesX_any (r : RU) (a : RuA) (w : World) (h : RuR w a r) (hl : r.pats.length ≤ 100000 ∧ r.excs.length ≤ 100000 ∧ r.bars.length ≤ 100000) : Calls Tryz.prog 16 #[r.val a] w (RetCx r w) :=
  (copyRules_any r a w h hl).mono fun _ _ ⟨a', he, hr, ⟨h1, h2, h3⟩, ⟨q1, q2, q3⟩, hx⟩ => ⟨a', he, ⟨⟨h1, h2, h3, ⟨hr.left, hr.right⟩, by omega⟩, q1, q2, q3⟩, hx⟩
/-- One more exception changes the hyphens of its own word alone. -/
theorem cut_word {lt : Bool} {l : List UInt8} {x : List UInt8 × List Int} (h : mkOf lt 45 l = some x) : x.1 = (cutL l 45).flatten := by
  rw [cutL_join]
  unfold mkOf at h
  split at h
  · rename_i y hy
    split at h
    · cases h
      unfold mkAll at hy
      split at hy
      · cases hy
      · have key : ∀ n (q : List UInt8 × List Int), n ≤ l.length → mkTo l 45 n = some q → q.1 = (l.take n).filter (fun b => decide (b ≠ (45 : UInt8))) := by
          intro n
          induction n with
          | zero => intro q _ hq; cases hq; simp
          | succ n ih =>
            intro q hn hq
            rw [mkTo] at hq
            cases hp : mkTo l 45 n with
            | none => rw [hp] at hq; cases hq
            | some p =>
              obtain ⟨w, ps⟩ := p
              rw [hp] at hq
              have ih := ih _ (by omega) hp
              simp only at hq ih
              rw [take_snoc8 (by omega), List.filter_append, ← ih]
              split at hq
              · rename_i hm
                split at hq
                · cases hq
                · cases hq; rw [hm]; simp
              · rename_i hm
                cases hq
                rw [List.filter_cons, if_pos (by simpa using hm)]; simp
        have := key l.length _ (Nat.le_refl _) hy
        rw [List.take_length] at this
        exact this
    · cases h
  · cases h
theorem getD_snoc {α : Type} (l : List α) (m d : α) {k : Nat} (h : k < l.length) : (l ++ [m]).getD k d = l.getD k d := by
  rw [List.getD_eq_getElem?_getD, List.getD_eq_getElem?_getD, List.getElem?_append_left h]
theorem getD_last {α : Type} (l : List α) (m d : α) : (l ++ [m]).getD l.length d = m := by
  rw [List.getD_eq_getElem?_getD, List.getElem?_append_right (Nat.le_refl _), Nat.sub_self]; rfl
theorem mkLook_pre {lt : Bool} {mk : UInt8} (l : List ByteArray) (m : ByteArray) (w : List UInt8) : ∀ n, n ≤ l.length → mkLook lt mk (l ++ [m]) n w = mkLook lt mk l n w
  | 0, _ => rfl
  | n + 1, h => by rw [mkLook, mkLook, getD_snoc l m _ (by omega), mkLook_pre l m w n (by omega)]
def withExc (r : RU) (m : ByteArray) : RU := ⟨r.pats, r.excs ++ [m], r.bars, r.left, r.right⟩
def withPat (r : RU) (m : ByteArray) : RU := ⟨r.pats ++ [m], r.excs, r.bars, r.left, r.right⟩
theorem exc_law (r : RU) (m : ByteArray) (w : List UInt8) (h : low w ≠ (cutL m.data.toList 45).flatten) : hyW (withExc r m) w = hyW r w := by
  have h1 : excLook (withExc r m) (low w) = excLook r (low w) := by
    unfold excLook withExc
    simp only
    rw [List.length_append, List.length_singleton, mkLook, getD_last, mkLook_pre r.excs m _ _ (Nat.le_refl _)]
    cases ho : mkOf true 45 m.data.toList with
    | none => rfl
    | some x =>
      simp only
      rw [if_neg (fun e => h (by rw [e]; exact cut_word ho))]
  unfold hyW hyRw
  rw [h1]; rfl
theorem lvBy_pre (ps : List Pat) (q : Pat) (w : List UInt8) (i : Nat) : ∀ k, k ≤ ps.length → lvBy (ps ++ [q]) w k i = lvBy ps w k i
  | 0, _ => rfl
  | k + 1, h => by rw [lvBy, lvBy, lvBy_pre ps q w i k (by omega), getD_snoc ps q _ (by omega)]
theorem pat_law (r : RU) (m : ByteArray) (w : List UInt8) (i : Nat) : lvOf r w i ≤ lvOf (withPat r m) w i := by
  unfold lvOf withPat patsOf
  simp only [List.length_append, List.length_singleton, List.map_append, List.map_cons, List.map_nil]
  rw [lvBy, lvBy_pre _ _ _ _ _ (by simp)]
  exact Int.le_max_left _ _
theorem lvList_len (r : RU) (s : ByteArray) : (lvList r s.data.toList).length = s.size + 1 := by
  unfold lvList lvK; rw [List.length_map, List.length_range, low_len]; simp
theorem ruledE_other {r x : RU} {s : ByteArray} (he : (ruleE x).2 = 0) (hre : ruledE r s = 0) : ruledE x s = 0 := by
  unfold ruledE at hre ⊢
  rw [if_pos he]
  by_cases h0 : (ruleE r).2 = 0
  · rw [if_pos h0] at hre; exact hre
  · rw [if_neg h0] at hre; exact absurd hre h0
theorem ruled_hy {r : RU} (x : RU) (a : RuA) (s : ByteArray) (w : World) (h : RuR w a x) (hs : ShortU x) (he : (ruleE x).2 = 0) (hre : ruledE r s = 0) : Calls Tryz.prog 15 #[x.val a, .string s] w (RetSE (hyW x s.data.toList) 0 w) := by
  have h1 := Hyphens_any x a s w h hs (by have := ruledE_size hre; omega)
  rwa [if_pos (ruledE_other he hre), ruledE_other he hre] at h1
theorem ruled_lv {r : RU} (x : RU) (a : RuA) (s : ByteArray) (w : World) (h : RuR w a x) (hs : ShortU x) (he : (ruleE x).2 = 0) (hre : ruledE r s = 0) : Calls Tryz.prog 32 #[x.val a, .string s] w (RetSE (lvList x s.data.toList) 0 w) := by
  have h1 := LevelsOf_any x a s w h hs (by have := ruledE_size hre; omega)
  rwa [if_pos (ruledE_other he hre), ruledE_other he hre] at h1
theorem withExc_short {r : RU} {m : ByteArray} (h : ShortU r) (he : r.excs.length ≤ 999) (hm : m.size ≤ 40) : ShortU (withExc r m) := by
  refine ⟨h.p, ⟨by unfold withExc; simp only [List.length_append, List.length_singleton]; omega, fun k hk => ?_⟩, h.b⟩
  unfold withExc at hk ⊢
  simp only [List.length_append, List.length_singleton] at hk ⊢
  rcases Nat.lt_or_ge k r.excs.length with h1 | h1
  · rw [getD_snoc _ _ _ h1]; exact h.e.2 k h1
  · rw [show k = r.excs.length by omega, getD_last]; omega
theorem withPat_short {r : RU} {m : ByteArray} (h : ShortU r) (he : r.pats.length ≤ 999) (hm : m.size ≤ 40) : ShortU (withPat r m) := by
  refine ⟨⟨by unfold withPat; simp only [List.length_append, List.length_singleton]; omega, fun k hk => ?_⟩, h.e, h.b⟩
  unfold withPat at hk ⊢
  simp only [List.length_append, List.length_singleton] at hk ⊢
  rcases Nat.lt_or_ge k r.pats.length with h1 | h1
  · rw [getD_snoc _ _ _ h1]; exact h.p.2 k h1
  · rw [show k = r.pats.length by omega, getD_last]; omega
end Go.Proofs.YtccdnieoaejgdaaGreatDoor
