/-
  Walks: strings.CutPrefix and strings.CutSuffix of a dot.
  Walk: patternOf.
  A region whose operations keep to a condition on the world, within a round of a loop over an iterator.
-/
import Derived.Test.YtccdnieoaejgdaaGreatDoorT2AK
import Derived.Test.YtccdnieoaejgdaaGreatDoorT2AD
import Derived.Test.YtccdnieoaejgdaaGreatDoorT2AH
import Derived.OrdersIn
import Derived.RangeFuncCalls
set_option linter.unusedVariables false
set_option linter.unusedSimpArgs false
set_option linter.unusedSectionVars false
namespace Go.Proofs.YtccdnieoaejgdaaGreatDoor
open Go.RowKit Go.Lib

theorem ext_list (s : ByteArray) (a b : Nat) : (s.extract a b).data.toList = (s.data.toList.drop a).take (b - a) := by
  rw [ByteArray.data_extract, Array.toList_extract]
theorem front_has (l : List UInt8) : Lib.hasPrefix l [46] = frontDot l := by
  unfold frontDot Lib.hasPrefix
  cases l with
  | nil => rfl
  | cons b r =>
    simp [List.isPrefixOf]
    by_cases h : b = 46
    · subst h; rfl
    · rw [decide_eq_false h, beq_eq_false_iff_ne]; exact fun e => h e.symm
theorem back_has (l : List UInt8) : Lib.hasSuffix l [46] = backDot l := by
  unfold backDot Lib.hasSuffix
  rw [Bool.eq_iff_iff, decide_eq_true_eq, List.isSuffixOf_iff_suffix, List.getLast?_eq_some_iff]
  constructor
  · rintro ⟨t, rfl⟩; exact ⟨t, rfl⟩
  · rintro ⟨t, rfl⟩; exact ⟨t, rfl⟩
theorem front_len {l : List UInt8} (h : frontDot l = true) : 1 ≤ l.length := by
  cases l with
  | nil => cases h
  | cons b r => simp
theorem back_len {l : List UInt8} (h : backDot l = true) : 1 ≤ l.length := by
  cases l with
  | nil => cases h
  | cons b r => simp
theorem str_eq {a b : ByteArray} (h : a.data.toList = b.data.toList) : Value.string a = Value.string b := by rw [bytes_ext h]
theorem hasPrefix_any (s : ByteArray) (w : World) : Calls Tryz.prog 158 #[.string s, .string { data := #[46] }] w (Same (.bool (frontDot s.data.toList)) w) :=
  (Tryz.stringslite_HasPrefix s ⟨#[46]⟩ w).mono fun e w' ⟨h1, h2⟩ => ⟨by rw [h1, ← front_has], h2.symm⟩
theorem hasSuffix_any (s : ByteArray) (w : World) (hs : s.size ≤ 1000000) : Calls Tryz.prog 159 #[.string s, .string { data := #[46] }] w (Same (.bool (backDot s.data.toList)) w) :=
  (Tryz.stringslite_HasSuffix s ⟨#[46]⟩ w (by omega)).mono fun e w' ⟨h1, h2⟩ => ⟨by rw [h1, ← back_has], h2.symm⟩
theorem cutPrefix_any (s : ByteArray) (w : World) (hs : s.size ≤ 1000000) : Calls Tryz.prog 162 #[.string s, .string { data := #[46] }] w (Same (.tuple #[.string ⟨(cutFront s.data.toList).toArray⟩, .bool (frontDot s.data.toList)]) w) := by
  have hs' : s.size ≤ 9223372036854775807 := by omega
  have CH := Lib.hid fun W => hasPrefix_any s W
  cases hd : frontDot s.data.toList
  · have HC : Hid (Value.string s = .string ⟨(cutFront s.data.toList).toArray⟩) := Lib.hid (str_eq (by unfold cutFront; rw [hd]; rfl))
    rw [hd] at CH
    clear hd
    go_enter Tryz.func162, Tryz.ntmps162
    go_wp2_with (first | (go_at_call 158; refine Calls.mono (CH.out _) ?_; rintro e w1 ⟨rfl, rfl⟩))
    go_ret2
    exact ⟨by rw [← HC.out]; rfl, rfl⟩
  · rw [hd] at CH
    have h1 : 1 ≤ s.size := by have := front_len hd; simpa using this
    have HC : Hid (Value.string (s.extract 1 s.size) = .string ⟨(cutFront s.data.toList).toArray⟩) := Lib.hid (str_eq (by
      unfold cutFront; rw [hd, ext_list]; simp only [if_true]; rw [List.take_of_length_le (by simp)]))
    clear hd
    go_enter Tryz.func162, Tryz.ntmps162
    go_wp2_with (first | (go_at_call 158; refine Calls.mono (CH.out _) ?_; rintro e w1 ⟨rfl, rfl⟩))
    go_ret2
    exact ⟨by rw [← HC.out]; rfl, rfl⟩
theorem cutSuffix_any (s : ByteArray) (w : World) (hs : s.size ≤ 1000000) : Calls Tryz.prog 163 #[.string s, .string { data := #[46] }] w (Same (.tuple #[.string ⟨(cutBack s.data.toList).toArray⟩, .bool (backDot s.data.toList)]) w) := by
  have hs' : s.size ≤ 9223372036854775807 := by omega
  have CH := Lib.hid fun W => hasSuffix_any s W hs
  cases hd : backDot s.data.toList
  · have HC : Hid (Value.string s = .string ⟨(cutBack s.data.toList).toArray⟩) := Lib.hid (str_eq (by unfold cutBack; rw [hd]; rfl))
    rw [hd] at CH
    clear hd
    go_enter Tryz.func163, Tryz.ntmps163
    go_wp2_with (first | (go_at_call 159; refine Calls.mono (CH.out _) ?_; rintro e w1 ⟨rfl, rfl⟩))
    go_ret2
    exact ⟨by rw [← HC.out]; rfl, rfl⟩
  · rw [hd] at CH
    have h1 : 1 ≤ s.size := by have := back_len hd; simpa using this
    have u1 : IntKind.i64.wrap ((s.size : Int) - 1) = ((s.size - 1 : Nat) : Int) := by
      rw [show (s.size : Int) - 1 = ((s.size - 1 : Nat) : Int) by omega]; exact IntWalk.i64_in _ (by omega)
    have HC : Hid (Value.string (s.extract 0 (s.size - 1)) = .string ⟨(cutBack s.data.toList).toArray⟩) := Lib.hid (str_eq (by
      unfold cutBack; rw [hd, ext_list]; simp only [if_true]; rw [List.dropLast_eq_take]; simp))
    clear hd
    go_enter Tryz.func163, Tryz.ntmps163
    go_wp2_with (first | (go_at_call 159; refine Calls.mono (CH.out _) ?_; rintro e w1 ⟨rfl, rfl⟩))
    go_ret2
    exact ⟨by rw [← HC.out]; rfl, rfl⟩
theorem sCutPrefix_any (s : ByteArray) (w : World) (hs : s.size ≤ 1000000) : Calls Tryz.prog 155 #[.string s, .string { data := #[46] }] w (Same (.tuple #[.string ⟨(cutFront s.data.toList).toArray⟩, .bool (frontDot s.data.toList)]) w) := by
  have CH := Lib.hid fun W => cutPrefix_any s W hs
  generalize (⟨(cutFront s.data.toList).toArray⟩ : ByteArray) = t at *
  generalize frontDot s.data.toList = b at *
  go_enter Tryz.func155, Tryz.ntmps155
  go_wp2_with (first | (go_at_call 162; refine Calls.mono (CH.out _) ?_; rintro e w1 ⟨rfl, rfl⟩))
  go_ret2
  exact ⟨rfl, rfl⟩
theorem sCutSuffix_any (s : ByteArray) (w : World) (hs : s.size ≤ 1000000) : Calls Tryz.prog 156 #[.string s, .string { data := #[46] }] w (Same (.tuple #[.string ⟨(cutBack s.data.toList).toArray⟩, .bool (backDot s.data.toList)]) w) := by
  have CH := Lib.hid fun W => cutSuffix_any s W hs
  generalize (⟨(cutBack s.data.toList).toArray⟩ : ByteArray) = t at *
  generalize backDot s.data.toList = b at *
  go_enter Tryz.func156, Tryz.ntmps156
  go_wp2_with (first | (go_at_call 163; refine Calls.mono (CH.out _) ?_; rintro e w1 ⟨rfl, rfl⟩))
  go_ret2
  exact ⟨rfl, rfl⟩
end Go.Proofs.YtccdnieoaejgdaaGreatDoor
namespace Go.Proofs.YtccdnieoaejgdaaGreatDoor
open Go.RowKit Go.Lib

def strL (l : List UInt8) : ByteArray := ⟨l.toArray⟩
theorem strL_list (l : List UInt8) : (strL l).data.toList = l := rfl
theorem strL_of (s : ByteArray) : strL s.data.toList = s := bytes_ext rfl
theorem strL_size (l : List UInt8) : (strL l).size = l.length := by unfold strL; simp [ByteArray.size]
theorem strL_append (a b : List UInt8) : strL a ++ strL b = strL (a ++ b) := bytes_ext (by rw [ByteArray.data_append]; simp [strL])
theorem enc_small {c : Int} (h : smC c = true) : Utf8.encode c = strL [UInt8.ofNat c.toNat] := by
  have h1 := smC_iff.1 h
  unfold Utf8.encode
  have hv : Utf8.valid c = true := by unfold Utf8.valid; simp; omega
  simp only [hv, if_true]
  rw [if_pos (by omega)]
  rfl
theorem own_slice {W : World} {base : Nat} {v : Value} {zs : List Int} (h : Own W base v zs) : ∃ A n c, v = .slice A n c := by
  rcases h.2 with ⟨h1, h2⟩ | ⟨g, cap, cur, hv, _⟩
  · exact ⟨none, 0, 0, h1⟩
  · exact ⟨_, _, _, hv⟩
/-- A pattern in memory. -/
structure PatR (W : World) (base p : Nat) (q : Pat) : Prop where
  ge : base ≤ p
  ex : ∃ A c, Blk W p 188 #[.string (strL q.lt), .slice A q.lv.length c, .bool q.fs, .bool q.en] ∧ SL W base A c q.lv
theorem PatR.ext {W W' : World} {base p : Nat} {q : Pat} (h : PatR W base p q) (hx : Ext W W') : PatR W' base p q := by
  obtain ⟨A, c, h1, h2⟩ := h.ex
  exact ⟨h.ge, A, c, h1.ext hx, h2.ext hx⟩
theorem PatR.mono {W : World} {base base' p : Nat} {q : Pat} (h : PatR W base p q) (hb : base' ≤ base) : PatR W base' p q := by
  obtain ⟨A, c, h1, h2⟩ := h.ex
  exact ⟨Nat.le_trans hb h.ge, A, c, h1, h2.mono hb⟩
/-- The answer of patternOf. -/
def RetPat (o : Option Pat) (w : World) (e : Ending) (w' : World) : Prop :=
  (∃ q p, o = some q ∧ e = .returned (.tuple #[.pointer (some ⟨p, 0, none⟩), .bool true]) ∧ PatR w' w.heap.size p q ∧ Ext w w') ∨
  (o = none ∧ ∃ x, e = .returned (.tuple #[.pointer x, .bool false]) ∧ Ext w w')
/-- A pattern that is read. -/
structure PW (w W : World) (p : Nat) (q : PS) (fs en : Bool) (v : Value) : Prop where
  ext : Ext w W
  hp : w.heap.size ≤ p
  blk : Blk W p 188 #[.string (strL q.ls), v, .bool fs, .bool en]
  own : Own W w.heap.size v (q.vs ++ [q.lv])
section
variable {w W W' : World} {p : Nat} {q : PS} {fs en b : Bool} {v v' : Value}
theorem PW.next (h : PW w W p q fs en v) (hx : Ext W W') : PW w W' p q fs en v := ⟨h.ext.trans hx, h.hp, h.blk.ext hx, h.own.ext hx⟩
theorem PW.far (h : PW w W p q fs en v) (i : Nat) (u : Value) : Own (W.setCell ⟨p, i, none⟩ u) w.heap.size v (q.vs ++ [q.lv]) := by
  refine World.ownsRow.kept (row := some p) h.own ⟨rfl, rfl, rfl, by simp [World.setCell], fun k _ hn => Below.heap_setCell W ⟨p, i, none⟩ u k (fun e => hn (by rw [e]))⟩ ?_
  exact .inr (Lib.ownBlock_ne h.own h.blk (by decide))
theorem PW.first (h : PW w W p q fs en v) (b : Bool) : PW w (W.setCell ⟨p, 2, none⟩ (.bool b)) p q b en v := ⟨h.ext.setCell h.hp _, h.hp, h.blk.set_ 2 _, h.far _ _⟩
theorem PW.last (h : PW w W p q fs en v) (b : Bool) : PW w (W.setCell ⟨p, 3, none⟩ (.bool b)) p q fs b v := ⟨h.ext.setCell h.hp _, h.hp, h.blk.set_ 3 _, h.far _ _⟩
theorem PW.letter (h : PW w W p q fs en v) (c : UInt8) : PW w (W.setCell ⟨p, 0, none⟩ (.string (strL (q.ls ++ [c])))) p ⟨q.ls ++ [c], q.vs, q.lv, q.d⟩ fs en v := ⟨h.ext.setCell h.hp _, h.hp, h.blk.set_ 0 _, h.far _ _⟩
theorem PW.push (h : PW w W p q fs en v) (hg : W.grownBy W' v.ownBlock) (ho : Own W' w.heap.size v' (q.vs ++ [q.lv] ++ [0])) : PW w (W'.setCell ⟨p, 1, none⟩ v') p ⟨q.ls, q.vs ++ [q.lv], 0, false⟩ fs en v' := by
  have hb : Blk W' p 188 #[.string (strL q.ls), v, .bool fs, .bool en] := (hg.block p h.blk.lt (fun e => Lib.ownBlock_ne h.own h.blk (by decide) e.symm)).trans h.blk
  have hx : Ext w W' := own_ext hg h.own h.ext
  have h2 : PW w W' p ⟨q.ls, q.vs ++ [q.lv], 0, false⟩ fs en v' → PW w (W'.setCell ⟨p, 1, none⟩ v') p ⟨q.ls, q.vs ++ [q.lv], 0, false⟩ fs en v' := fun k => ⟨k.ext.setCell k.hp _, k.hp, by simpa using k.blk.set_ 1 v', k.far _ _⟩
  refine ⟨hx.setCell h.hp _, h.hp, by simpa using hb.set_ 1 v', ?_⟩
  refine World.ownsRow.kept (row := some p) ho ⟨rfl, rfl, rfl, by simp [World.setCell], fun k _ hn => Below.heap_setCell W' ⟨p, 1, none⟩ v' k (fun e => hn (by rw [e]))⟩ ?_
  exact .inr (Lib.ownBlock_ne ho hb (by decide))
/-- The slice of the levels: its last cell. -/
theorem PW.form (h : PW w W p q fs en v) (hq : q.vs.length ≤ 1000) : ∃ g c, v = .slice (some ⟨g, 0, none⟩) (q.vs.length + 1) c ∧ g < W.heap.size ∧ w.heap.size ≤ g ∧ W.cell? ⟨g, q.vs.length, none⟩ = some (.int .i64 q.lv) ∧ W.frozen? ⟨g, q.vs.length, none⟩ = false := by
  have hl : (q.vs ++ [q.lv]).length = q.vs.length + 1 := by simp
  obtain ⟨g, cap, hv, hg, hlt⟩ := World.ownsRow.form h.own (by rw [hl]; omega)
  subst hv
  have hc := World.ownsRow.cellAt h.own q.vs.length (by rw [hl]; omega)
  have hf := World.ownsRow.frozenAt h.own q.vs.length
  rw [hl]
  refine ⟨g, cap, rfl, hlt, hg, ?_, hf⟩
  rw [hc]
  simp
theorem PW.level {g c : Nat} (h : PW w W p q fs en (.slice (some ⟨g, 0, none⟩) (q.vs.length + 1) c)) (z : Int) : PW w (W.setCell ⟨g, q.vs.length, none⟩ (.int .i64 z)) p ⟨q.ls, q.vs, z, true⟩ fs en (.slice (some ⟨g, 0, none⟩) (q.vs.length + 1) c) := by
  have hl : (q.vs ++ [q.lv]).length = q.vs.length + 1 := by simp
  have ho := h.own
  unfold Own at ho
  rw [hl] at ho
  have hs := (World.ownsRow.stored ho q.vs.length (.int .i64 z)).1
  have hgb := (World.ownsRow.lt ho g rfl).1
  have hne : p ≠ g := fun e => Lib.ownBlock_ne h.own h.blk (by decide) (by rw [e]; rfl)
  refine ⟨h.ext.setCell (p := ⟨g, _, none⟩) hgb _, h.hp, h.blk.far hne _, ?_⟩
  unfold Own
  have hm : ((q.vs ++ [q.lv]).map (Value.int .i64)).set q.vs.length (.int .i64 z) = (q.vs ++ [z]).map (Value.int .i64) := by
    simp
  rw [hm] at hs
  simpa using hs
end
theorem PW.start (w : World) : PW w ((w.alloc (.cells #[.int .i64 0] 3)).alloc (.cells #[.string ⟨#[]⟩, .slice (some ⟨w.heap.size, 0, none⟩) 1 1, .bool false, .bool false] 188)) (w.heap.size + 1) ⟨[], [], 0, false⟩ false false (.slice (some ⟨w.heap.size, 0, none⟩) 1 1) :=
  ⟨((Ext.refl w).alloc _).alloc _, by omega, Blk.new1 w _ _ _, World.ownsRow.alloc (World.ownsRow_lit (e := 3) (size := 1) w #[.int .i64 0] 1 (Nat.le_refl _) (by unfold maxLen; omega) rfl) _⟩
set_option maxRecDepth 100000 in
set_option maxHeartbeats 4000000 in
theorem patternOf_any (s : ByteArray) (w : World) (hs : s.size ≤ 100) : Calls Tryz.prog 137 #[.string s] w (RetPat (patOf s.data.toList) w) := by
  have CA := Lib.hid fun W => sCutPrefix_any s W (by omega)
  have CB := Lib.hid fun W => sCutSuffix_any (strL (cutFront s.data.toList)) W (by
    rw [strL_size]
    have h1 : s.data.toList.length = s.size := by simp
    unfold cutFront; split
    · rw [List.length_drop]; omega
    · omega)
  have HP0 := Lib.hid (PW.start w)
  change Hid (∀ W, Calls Tryz.prog 155 #[.string s, .string { data := #[46] }] W (Same (.tuple #[.string (strL (cutFront s.data.toList)), .bool (frontDot s.data.toList)]) W)) at CA
  change Hid (∀ W, Calls Tryz.prog 156 #[.string (strL (cutFront s.data.toList)), .string { data := #[46] }] W (Same (.tuple #[.string (strL (patMid s.data.toList)), .bool (backDot (cutFront s.data.toList))]) W)) at CB
  have HE : Hid (patOf s.data.toList = match patTo (patMid s.data.toList) (patMid s.data.toList).length with | some p => if 1 ≤ p.ls.length ∧ p.ls.length ≤ 16 then some ⟨p.ls, p.vs ++ [p.lv], frontDot s.data.toList, backDot (cutFront s.data.toList)⟩ else none | none => none) := Lib.hid rfl
  have HML : Hid ((patMid s.data.toList).length ≤ 100) := Lib.hid (by
    have h1 : s.data.toList.length = s.size := by simp
    unfold patMid cutBack cutFront
    split <;> split <;> simp <;> omega)
  generalize patOf s.data.toList = o at *
  generalize backDot (cutFront s.data.toList) = en at *
  generalize frontDot s.data.toList = fs at *
  generalize patMid s.data.toList = mid at *
  generalize cutFront s.data.toList = cf at *
  go_enter Tryz.func137, Tryz.ntmps137
  go_upto_region 2 with fail
  generalize ((w.alloc (.cells #[.int .i64 0] 3)).alloc (.cells #[.string ⟨#[]⟩, .slice (some ⟨w.heap.size, 0, none⟩) 1 1, .bool false, .bool false] 188)) = w0 at *
  generalize Value.slice (some ⟨w.heap.size, 0, none⟩) 1 1 = v at *
  generalize w.heap.size + 1 = p at *
  obtain ⟨p0, p1, p2, p3, pl⟩ := HP0.out.blk.c4
  have F := HP0.out.blk.frozen
  go_upto_region 3 with (first | (go_at_call 155; refine Calls.mono (CA.out _) ?_; rintro e w1 ⟨rfl, rfl⟩))
  have HP1 := Lib.hid (HP0.out.first fs)
  clear p0 p1 p2 p3 pl F HP0
  generalize w0.setCell ⟨p, 2, none⟩ (.bool fs) = w1 at *
  obtain ⟨p0, p1, p2, p3, pl⟩ := HP1.out.blk.c4
  have F := HP1.out.blk.frozen
  go_upto_region 4 with (first | (go_at_call 156; refine Calls.mono (CB.out _) ?_; rintro e w2 ⟨rfl, rfl⟩))
  have HP2 := Lib.hid (HP1.out.last en)
  clear p0 p1 p2 p3 pl F HP1
  generalize w1.setCell ⟨p, 3, none⟩ (.bool en) = w2 at *
  have HSZ := Lib.hid (strL_size mid)
  have hsz : (strL mid).size ≤ 9223372036854775807 := by rw [HSZ.out]; have := HML.out; omega
  have HBY : Hid (∀ k (h : k < (strL mid).size), ((strL mid)[k].toNat : Int) = bya mid k) := Lib.hid (fun k h => bya_byte (strL mid) k h)
  have HGD : Hid (∀ k, mid.getD k 0 = UInt8.ofNat (bya mid k).toNat) := Lib.hid (fun k => by unfold bya; simp)
  generalize hst : strL mid = str at *
  clear hst
  have HEL : Hid (mid.length = str.size) := Lib.hid HSZ.out.symm
  go_upto_region 6 with fail
  go_loopw [29, 5] (fun v29 v5 wr => ∃ (k : Nat) (q : PS) (v : Value), k ≤ str.size ∧ v29 = .int .i64 (k : Int) ∧ v5 = .bool q.d ∧ Hid (patTo mid k = some q) ∧ Hid (PW w wr p q fs en v)) (fun v29 _ _ => str.size - (intOf v29).toNat)
  case atStart => exact ⟨0, ⟨[], [], 0, false⟩, v, Nat.zero_le _, rfl, rfl, Lib.hid rfl, HP2⟩
  case round =>
    clear HP2
    obtain ⟨k, q, v, hk, rfl, rfl, HT, HP⟩ := hrel
    have HOK := Lib.hid (patTo_ok HT.out)
    obtain ⟨p0, p1, p2, p3, pl⟩ := HP.out.blk.c4
    have F := HP.out.blk.frozen
    by_cases hlt : k < str.size
    case pos =>
      have ik : (k : Int) < (str.size : Int) := by omega
      have HB := Lib.hid (HBY.out k hlt)
      have HNX := Lib.hid (patTo_next HT.out)
      have HBD := Lib.hid (bya_nonneg mid k)
      generalize hx : (str[k].toNat : Int) = c at *
      have HCE : Hid (mid.getD k 0 = UInt8.ofNat c.toNat) := Lib.hid (by rw [HGD.out k, ← HB.out])
      have HCN : Hid ((UInt8.ofNat c.toNat).toNat = c.toNat ∧ 0 ≤ c ∧ c < 256) := Lib.hid (by
        have h := HBD.out
        rw [← HB.out] at h
        refine ⟨?_, h⟩
        simp; omega)
      have CS := Lib.hid (isSmall_any c)
      cases hsm : smC c
      case true =>
        rw [hsm] at CS
        have hen := enc_small hsm
        have HN : Hid (patTo mid (k + 1) = some ⟨q.ls ++ [UInt8.ofNat c.toNat], q.vs ++ [q.lv], 0, false⟩) := Lib.hid (by
          rw [HNX.out, HCE.out]; unfold PS.step; rw [HCN.out.1, Int.toNat_of_nonneg HCN.out.2.1, if_pos hsm])
        have hap : strL q.ls ++ Utf8.encode c = strL (q.ls ++ [UInt8.ofNat c.toNat]) := by rw [hen, strL_append]
        have hz1 : (strL q.ls).size ≤ 200 := by rw [strL_size]; have h1 := HOK.out.le; have h3 := HEL.out; have h4 := HML.out; omega
        have hz2 : (Utf8.encode c).size = 1 := by rw [hen, strL_size]; rfl
        clear hen hsm
        -- BEGIN A
        go_upto_region 12 with (first | (go_at_call 141; refine Calls.mono (CS.out _) ?_; rintro e w3 ⟨rfl, rfl⟩))
        have HP3 := Lib.hid (HP.out.letter (UInt8.ofNat c.toNat))
        clear p0 p1 p2 p3 pl F HP hap
        generalize wr.setCell ⟨p, 0, none⟩ (.string (strL (q.ls ++ [UInt8.ofNat c.toNat]))) = w3 at *
        obtain ⟨p0, p1, p2, p3, pl⟩ := HP3.out.blk.c4
        have F := HP3.out.blk.frozen
        go_upto_region 13 with (at_builtin; refine list_push rfl (.tmp 51) (.tmp 52) rfl w.heap.size v (q.vs ++ [q.lv]) (by rfl) (HP3.out.own.alloc _) w3.heap.size 0 (by rfl) (by simp) (by have h1 := HOK.out.len; have h2 := HOK.out.le; have h3 := HEL.out; have h4 := HML.out; simp; omega) (by have := HP3.out.ext.size; simp; omega) ?_; intro v' w4 ho hg; obtain ⟨A9, n9, c9, rfl⟩ := own_slice ho; have HP4 := Lib.hid (PW.push (HP3.out.next ((Ext.refl w3).alloc (.cells #[.int .i64 0] 3))) hg ho); have HB4 : Hid (Blk w4 p 188 #[.string (strL (q.ls ++ [UInt8.ofNat c.toNat])), v, .bool fs, .bool en]) := Lib.hid ((hg.block p (HP3.out.blk.alloc _).lt (fun e => Lib.ownBlock_ne HP3.out.own HP3.out.blk (by decide) e.symm)).trans (HP3.out.blk.alloc _)); obtain ⟨q0, q1, q2, q3, ql⟩ := HB4.out.c4; have F4 := HB4.out.frozen; clear ho hg p0 p1 p2 p3 pl F)
        generalize w4.setCell ⟨p, 1, none⟩ (.slice A9 n9 c9) = w5 at *
        go_wp2
        go_roundw
        case rel => exact ⟨k + 1, ⟨q.ls ++ [UInt8.ofNat c.toNat], q.vs ++ [q.lv], 0, false⟩, .slice A9 n9 c9, by omega, by go_num, rfl, HN, HP4⟩
        case measure => simp [intOf]; omega
        -- END A
      case false =>
        rw [hsm] at CS
        -- BEGIN B
        by_cases hdg : 48 ≤ c ∧ c ≤ 57 ∧ q.d = false
        case pos =>
          have h48 := hdg.1
          have h57 := hdg.2.1
          have hqd := hdg.2.2
          have HN : Hid (patTo mid (k + 1) = some ⟨q.ls, q.vs, c - 48, true⟩) := Lib.hid (by
            rw [HNX.out, HCE.out]; unfold PS.step; rw [HCN.out.1, Int.toNat_of_nonneg HCN.out.2.1, if_neg (by rw [hsm]; simp), if_pos ⟨dgC_iff.2 ⟨h48, h57⟩, hqd⟩])
          have HNL : Hid (q.vs.length ≤ 100) := Lib.hid (by have h1 := HOK.out.len; have h2 := HOK.out.le; have h3 := HEL.out; have h4 := HML.out; omega)
          obtain ⟨g, gc, rfl, hgl, hgb, c0, f0⟩ := HP.out.form (by have := HNL.out; omega)
          have u1 : IntKind.u8.wrap (c - 48) = c - 48 := IntWalk.u8_in _ (by omega)
          have u2 : IntKind.i64.wrap (c - 48) = c - 48 := IntWalk.i64_in _ (by omega)
          have hnv : q.vs.length ≤ 100 := HNL.out
          have u3 : IntKind.i64.wrap (q.vs.length : Int) = (q.vs.length : Int) := IntWalk.i64_in _ (by omega)
          have mixed : Tryz.prog.follows .mixedOrders = true := by kernel_rfl
          clear hsm hdg
          obtain ⟨n, hn⟩ : ∃ n, n = q.vs.length := ⟨_, rfl⟩
          rw [← hn] at p1 c0 f0 hnv u3 HP
          have HNV := Lib.hid hn
          have hnn : (n : Int) < (n : Int) + 1 := by omega
          clear hn
          rw [hqd]
          go_upto_region 15 with (first | (go_at_call 141; refine Calls.mono (CS.out _) ?_; rintro e w3 ⟨rfl, rfl⟩))
          go_still_tail 14, (by kernel_rfl)
          change wpList _ _ _ _ _ (World.drew _)
          have HP4 := Lib.hid (PW.level (PW.next (HNV.out ▸ HP.out) (Ext.refl wr).drew) (c - 48))
          rw [← HNV.out] at HP4
          go_wp2
          go_roundw
          case rel => exact ⟨k + 1, ⟨q.ls, q.vs, c - 48, true⟩, _, by omega, by go_num, rfl, HN, HP4⟩
          case measure => simp [intOf]; omega
        case neg =>
          have HNO : Hid (o = none) := Lib.hid (by
            have h1 : patTo mid (k + 1) = none := by
              rw [HNX.out, HCE.out]; unfold PS.step
              rw [HCN.out.1, Int.toNat_of_nonneg HCN.out.2.1, if_neg (by rw [hsm]; simp), if_neg (fun h => hdg ⟨(dgC_iff.1 h.1).1, (dgC_iff.1 h.1).2, h.2⟩)]
            rw [HE.out, patTo_none h1 mid.length (by have := HEL.out; omega)])
          clear hsm
          by_cases h48 : 48 ≤ c
          · by_cases h57 : c ≤ 57
            · have hqd : q.d = true := by
                cases hd : q.d
                · exact absurd ⟨h48, h57, hd⟩ hdg
                · rfl
              rw [hqd]
              clear hdg hqd
              go_wp2_with (first | (go_at_call 141; refine Calls.mono (CS.out _) ?_; rintro e w3 ⟨rfl, rfl⟩))
              go_ret2
              exact .inr ⟨HNO.out, none, rfl, HP.out.ext⟩
            · clear hdg
              go_wp2_with (first | (go_at_call 141; refine Calls.mono (CS.out _) ?_; rintro e w3 ⟨rfl, rfl⟩))
              go_ret2
              exact .inr ⟨HNO.out, none, rfl, HP.out.ext⟩
          · clear hdg
            go_wp2_with (first | (go_at_call 141; refine Calls.mono (CS.out _) ?_; rintro e w3 ⟨rfl, rfl⟩))
            go_ret2
            exact .inr ⟨HNO.out, none, rfl, HP.out.ext⟩
        -- END B
    case neg =>
      obtain rfl : k = str.size := by omega
      have ik : ¬ (str.size : Int) < (str.size : Int) := by omega
      -- BEGIN C
      have HS2 := Lib.hid (strL_size q.ls)
      have hz1 : (strL q.ls).size ≤ 200 := by rw [strL_size]; have h1 := HOK.out.le; have h3 := HEL.out; have h4 := HML.out; omega
      rw [show str.size = mid.length from HEL.out.symm] at HT
      by_cases hin : 1 ≤ q.ls.length ∧ q.ls.length ≤ 16
      · have hin' : 1 ≤ ((strL q.ls).size : Int) ∧ ((strL q.ls).size : Int) ≤ 16 := by rw [strL_size]; omega
        have HO : Hid (o = some ⟨q.ls, q.vs ++ [q.lv], fs, en⟩) := Lib.hid (by rw [HE.out, HT.out]; simp only; rw [if_pos hin])
        have HR : Hid (PatR wr w.heap.size p ⟨q.ls, q.vs ++ [q.lv], fs, en⟩) := Lib.hid (by
          obtain ⟨A, c, he, hc, hr⟩ := HP.out.own.form (by have h1 := HOK.out.len; simp; omega)
          refine ⟨HP.out.hp, A, c, ?_, ?_⟩
          · rw [← he]; exact HP.out.blk
          · exact ⟨he ▸ HP.out.own, hr, hc⟩)
        clear hin
        go_wp2_with (first | (go_at_call 80; refine Calls.mono (tWithin_yes _ _ _ _ ?_) ?_; (omega); rintro e w1 ⟨rfl, rfl⟩) | (go_at_call 80; refine Calls.mono (tWithin_no _ _ _ _ ?_) ?_; (omega); rintro e w1 ⟨rfl, rfl⟩))
        go_ret2
        exact .inl ⟨_, p, HO.out, rfl, HR.out, HP.out.ext⟩
      · have hin' : ¬ (1 ≤ ((strL q.ls).size : Int) ∧ ((strL q.ls).size : Int) ≤ 16) := by rw [strL_size]; omega
        have HO : Hid (o = none) := Lib.hid (by rw [HE.out, HT.out]; simp only; rw [if_neg hin])
        clear hin
        go_wp2_with (first | (go_at_call 80; refine Calls.mono (tWithin_yes _ _ _ _ ?_) ?_; (omega); rintro e w1 ⟨rfl, rfl⟩) | (go_at_call 80; refine Calls.mono (tWithin_no _ _ _ _ ?_) ?_; (omega); rintro e w1 ⟨rfl, rfl⟩))
        go_ret2
        exact .inr ⟨HO.out, _, rfl, HP.out.ext⟩
      -- END C
end Go.Proofs.YtccdnieoaejgdaaGreatDoor
namespace Go.Proofs.YtccdnieoaejgdaaGreatDoor
open Go.RowKit

/-- No operation defers a call. -/
def noDefer (l : List Oper) : Bool := l.all fun o => match o.op with | .defer _ => false | _ => true
theorem noDefer_at {l : List Oper} (h : noDefer l = true) {i : Nat} {o : Oper} (hi : l[i]? = some o) : ∀ c, o.op ≠ .defer c := fun c e => by
  have := List.all_eq_true.1 h o (List.mem_of_getElem? hi)
  rw [e] at this
  cases this
section
variable {F : Fence} {n : Nat} {P : Program} {ops : Array Oper}
/-- Any order: by an invariant. -/
theorem wpAnyIn_inv {Q : Exit → Act → World → Prop} (J : Array Bool → Act → World → Prop) (hsz : ∀ L a W, J L a W → L.size = ops.size)
    (hstep : ∀ L a W i, J L a W → i ∈ Region.ready .any ops L → wpOpIn F n P ops Q i (J (L.setIfInBounds i true)) a W)
    (hdone : ∀ L a W, J L a W → Region.ready .any ops L = [] → Q .normal a W) : ∀ fuel L a W, J L a W → L.toList.count false ≤ fuel → wpAnyIn F n P .any ops Q fuel L a W
  | 0, L, a, W, hJ, hc => by
    have hr : Region.ready .any ops L = [] := by
      rw [List.eq_nil_iff_forall_not_mem]
      intro i hi
      unfold Region.ready at hi
      simp only [List.mem_filter, List.mem_range, Bool.and_eq_true, Bool.not_eq_true'] at hi
      have h0 : L.toList.count false = 0 := by omega
      rw [List.count_eq_zero] at h0
      have hlt : i < L.size := by rw [hsz L a W hJ]; exact hi.1
      have h2 := hi.2.1
      rw [Array.getD_eq_getD_getElem?, Array.getElem?_eq_getElem hlt, Option.getD_some] at h2
      exact h0 (by rw [← h2]; simp)
    exact ⟨hr, hdone L a W hJ hr⟩
  | fuel + 1, L, a, W, hJ, hc => by
    refine ⟨fun hr => hdone L a W hJ hr, fun i hi => ?_⟩
    refine wpOpIn_mono (fun a' W' hJ' => wpAnyIn_inv J hsz hstep hdone fuel _ a' W' hJ' ?_) (hstep L a W i hJ hi)
    unfold Region.ready at hi
    simp only [List.mem_filter, List.mem_range, Bool.and_eq_true, Bool.not_eq_true'] at hi
    have hlt : i < L.size := by rw [hsz L a W hJ]; exact hi.1
    have h2 := hi.2.1
    rw [Array.getD_eq_getD_getElem?, Array.getElem?_eq_getElem hlt, Option.getD_some] at h2
    have hmem : 0 < L.toList.count false := by
      rw [List.count_pos_iff]
      rw [← h2]; simp
    rw [Array.toList_setIfInBounds, List.count_set (by simpa using hlt)]
    have h3 : L.toList[i]'(by simpa using hlt) = false := by simpa using h2
    rw [h3, if_pos (by rfl), if_neg (by decide)]
    omega
end
section
variable {P : Program} {S : World → Prop} {l : List Oper} {a a0 : Act} {W : World}
theorem StepT.wpOpIn {ops : Array Oper} {Q : Exit → Act → World → Prop} {aT : Act} {i l0 n : Nat} {o : Oper} {v : Value} {K : Act → World → Prop} (hi : ops[i]? = some o) (hnd : ∀ c, o.op ≠ .defer c) (h : StepT P ops S aT o v W) (he : execOp a.eval o = execOp aT.eval o)
    (hw : Region.wanted o (yielded ops a.tmps) = Region.wanted o (yielded ops aT.tmps)) (hK : ∀ W', S W' → K (a.put o.dst v) W') : Go.wpOpIn (Fence.wide.inRound l0) n P ops Q i K a W := by
  unfold Go.wpOpIn
  simp only [hi]
  unfold StepT at h
  rw [← hw] at h
  split
  · rename_i hwt
    rw [if_pos hwt] at h
    refine ⟨fun _ _ => trivial, ?_⟩
    show o.uponIn _ n P a K Q ((o.semAt (some l0) a.eval).run P W)
    rw [Oper.semAt_eq _ _ _ hnd, he]
    generalize (execOp aT.eval o).run P W = r at *
    cases r with
    | ok m w' =>
      cases m with
      | value u => obtain ⟨rfl, hS'⟩ := h; exact hK _ hS'
      | skip => obtain ⟨rfl, hS'⟩ := h; exact hK _ hS'
      | enter f args =>
        refine ⟨fun e => (by cases e), (CallsIn.inRound l0 (callsIn_wide.2 h)).mono fun e w'' he => ?_⟩
        obtain ⟨rfl, hS'⟩ := he
        exact hK _ hS'
      | _ => exact h.elim
    | halt x w' => exact h.elim
  · rename_i hwf
    rw [if_neg hwf] at h
    obtain ⟨rfl, hS⟩ := h
    exact ⟨fun _ _ => trivial, hK _ hS⟩
/-- **A region whose operations keep S, carried out in the order of the text, is carried out**; F i: what operation i leaves behind. -/
theorem wpIn_region_steadyF {id l0 n : Nat} {w : World} {Q : Exit → Act → World → Prop} (S : World → Prop) (F : Nat → World → Prop) (V : List Value) (hm : P.follows .mixedOrders = true) (hok : steadyOk l = true) (hnd : noDefer l = true) (hlen : V.length = l.length)
    (hS : S { w with drawn := w.drawn + 1 }) (hsteps : StepsF P l.toArray S F 0 l V a0) (hQ : ∀ W, S W → (∀ j, j < l.length → F j W) → Q .normal (putAll l V a0) W) : (Code.region id l.toArray true).wpIn (Fence.wide.inRound l0) n P Q a0 w := by
  refine wpIn_region_any hm ?_
  refine wpAnyIn_inv (SteadyJ l V a0 S F) (fun L a W h => by rw [h.size]; simp) (fun L a W i h hi => ?_) (fun L a W h hr => ?_) _ _ _ _
    ⟨by simp, fun i o hi hL => ?_, hS, fun j hj hL => ?_, rfl, rfl, fun t _ => rfl, fun j o v t hj _ _ hL => ?_⟩ ?_
  · unfold Region.ready at hi
    simp only [List.mem_filter, List.mem_range, Bool.and_eq_true, Bool.not_eq_true'] at hi
    obtain ⟨hlt, hun, hrd⟩ := hi
    have hil : i < l.length := by simpa using hlt
    obtain ⟨o, ho⟩ : ∃ o, l[i]? = some o := ⟨_, List.getElem?_eq_getElem hil⟩
    have hoa : l.toArray[i]? = some o := by simpa using ho
    rw [hoa] at hrd
    simp only [Option.map_some, Option.getD_some, Array.all_eq_true'] at hrd
    have hrdy : ∀ k ∈ dirOf o, L.getD k true = true := fun k hk => by
      unfold dirOf at hk
      obtain ⟨e, he, rfl⟩ := List.mem_map.1 hk
      obtain ⟨he1, he2⟩ := List.mem_filter.1 he
      have h1 := hrd e (by simpa using he1)
      rw [he2] at h1
      simp only [Bool.not_true, Bool.false_or] at h1
      have hk2 := (steadyOk_at hok ho).2.1 e.on hk
      rw [Array.getD_eq_getD_getElem?] at h1 ⊢
      rw [Array.getElem?_eq_getElem (by rw [h.size]; omega)] at h1 ⊢
      exact h1
    obtain ⟨v, hv, hst⟩ := hsteps.at i o ho
    have hlook := h.looks hok hlen ho hun hrdy
    rw [Nat.zero_add] at hst
    refine StepT.wpOpIn hoa (noDefer_at hnd ho) (hst W h.st) ?_ ?_ (fun W' hS' => h.put hok ho hv hun hrdy hS')
    · refine execOp_congr o (fun cs b e => ?_) (fun x hx => ?_)
      · have := (steadyOk_at hok ho).1
        rw [e] at this
        cases this
      · cases x with
        | tmp t =>
          have := hlook t (by unfold Oper.looksAt; exact List.mem_append_left _ (List.mem_filterMap.2 ⟨.tmp t, by simpa using hx, rfl⟩))
          show a.tmps.getD t undef = (stateAt l V a0 i).tmps.getD t undef
          rw [Array.getD_eq_getD_getElem?, Array.getD_eq_getD_getElem?, this]
        | _ => rfl
    · unfold Region.wanted
      cases hg : o.guard with
      | none => rfl
      | some gw =>
        obtain ⟨q, want⟩ := gw
        have hy : yielded l.toArray a.tmps q = yielded l.toArray (stateAt l V a0 i).tmps q := by
          unfold yielded
          cases ht : (l.toArray[q]?).bind (·.dst) with
          | none => rfl
          | some t =>
            have := hlook t (by unfold Oper.looksAt; refine List.mem_append_right _ ?_; rw [hg]; simp only [ht]; simp)
            simp only [Option.bind_some, this]
        simp only [hy]
  · -- all are done
    have hall : ∀ i, i < l.length → L.getD i true = true := by
      intro i
      induction i using Nat.strongRecOn with
      | _ i ih =>
        intro hil
        rw [← Bool.not_eq_false]
        intro hun
        obtain ⟨o, ho⟩ : ∃ o, l[i]? = some o := ⟨_, List.getElem?_eq_getElem hil⟩
        have hoa : l.toArray[i]? = some o := by simpa using ho
        have hmem : i ∈ Region.ready .any l.toArray L := by
          unfold Region.ready
          simp only [List.mem_filter, List.mem_range, Bool.and_eq_true, Bool.not_eq_true']
          refine ⟨by simpa using hil, hun, ?_⟩
          rw [hoa]
          simp only [Option.map_some, Option.getD_some, Array.all_eq_true']
          intro e he
          by_cases hb : Region.binds .any e = true
          · have hk : e.on ∈ dirOf o := List.mem_map.2 ⟨e, List.mem_filter.2 ⟨by simpa using he, hb⟩, rfl⟩
            have hlt := (steadyOk_at hok ho).2.1 e.on hk
            have h1 := ih e.on hlt (by omega)
            rw [Array.getD_eq_getD_getElem?, Array.getElem?_eq_getElem (by rw [h.size]; omega)] at h1 ⊢
            rw [hb]
            simpa using h1
          · rw [Bool.not_eq_true] at hb; rw [hb]; rfl
        rw [hr] at hmem
        cases hmem
    have ha : a = putAll l V a0 := by
      rw [putAll_eq]
      obtain ⟨hz, hd⟩ := stateAt_size l V a0 l.length
      have ht : a.tmps = (stateAt l V a0 l.length).tmps := by
        apply Array.ext_getElem?
        intro t
        by_cases hex : ∃ (j : Nat) (x : Oper), l[j]? = some x ∧ x.dst = some t
        · obtain ⟨j, x, hj, hx⟩ := hex
          have hjl := (List.getElem?_eq_some_iff.1 hj).1
          obtain ⟨v, hv⟩ : ∃ v, V[j]? = some v := ⟨V[j]'(by rw [hlen]; exact hjl), List.getElem?_eq_getElem _⟩
          rw [h.done j x v t hj hv hx (hall j hjl), stateAt_own l V a0 l.length j t x v hjl hj hv hx fun q y hq hy hdy => hq (steady_unique hok hy hj hdy hx)]
        · rw [h.old t fun q y hq hy => absurd ⟨q, y, hq, hy⟩ hex, stateAt_other l V a0 l.length t fun q y _ hq hy => hex ⟨q, y, hq, hy⟩]
      obtain ⟨at_, ad⟩ := a
      have hdef := h.defers
      simp only at ht hdef
      rw [ht, hdef, ← hd]
    rw [ha]
    exact hQ W h.st fun j hj => h.eff j hj (hall j hj)
  · have hlt := (List.getElem?_eq_some_iff.1 hi).1
    replace hL : (Array.replicate l.toArray.size false).getD i true = true := hL
    rw [Array.getD_eq_getD_getElem?, Array.getElem?_eq_getElem (by simpa using hlt)] at hL
    simp at hL
  · rw [Array.getD_eq_getD_getElem?, Array.getElem?_eq_getElem (by simpa using hj)] at hL
    simp at hL
  · have hlt := (List.getElem?_eq_some_iff.1 hj).1
    rw [Array.getD_eq_getD_getElem?, Array.getElem?_eq_getElem (by simpa using hlt)] at hL
    simp at hL
  · exact Nat.le_trans (List.count_le_length) (by simp)
theorem wpIn_region_steady {id l0 n : Nat} {w : World} {Q : Exit → Act → World → Prop} (S : World → Prop) (V : List Value) (hm : P.follows .mixedOrders = true) (hok : steadyOk l = true) (hnd : noDefer l = true) (hlen : V.length = l.length)
    (hS : S { w with drawn := w.drawn + 1 }) (hsteps : StepsT P l.toArray S l V a0) (hQ : ∀ W, S W → Q .normal (putAll l V a0) W) : (Code.region id l.toArray true).wpIn (Fence.wide.inRound l0) n P Q a0 w :=
  wpIn_region_steadyF S (fun _ _ => True) V hm hok hnd hlen hS hsteps.steps fun W h _ => hQ W h
end
end Go.Proofs.YtccdnieoaejgdaaGreatDoor
