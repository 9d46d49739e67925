/-
  strings.Split at one byte, and marked words: plain laws and the walk of parted.
  Walk: parted, the word of an exception or a bar.
  The ruler under way: what stays while its maps and its patterns grow.
  Walk: rulerOf, right rules made ready to be used: its parts.
-/
import Derived.Test.YtccdnieoaejgdaaGreatDoorT2AP
import Derived.Shelf.Strings.SplitShaped
import Derived.Test.YtccdnieoaejgdaaGreatDoorT2AF
set_option linter.unusedVariables false
set_option linter.unusedSimpArgs false
set_option linter.unusedSectionVars false
namespace Go.Proofs.YtccdnieoaejgdaaGreatDoor
open Go.RowKit Go.Lib

/-- A list cut at a byte. -/
def sp (m : UInt8) : List UInt8 → List (List UInt8)
  | [] => [[]]
  | b :: r => if b = m then [] :: sp m r else match sp m r with
    | h :: t => (b :: h) :: t
    | [] => [[b]]
theorem sp_ne (m : UInt8) (l : List UInt8) : ∃ h t, sp m l = h :: t := by
  cases l with
  | nil => exact ⟨[], [], rfl⟩
  | cons b r =>
    unfold sp
    split
    · exact ⟨_, _, rfl⟩
    · split
      · exact ⟨_, _, rfl⟩
      · exact ⟨_, _, rfl⟩
theorem sp_none {m : UInt8} : ∀ {l : List UInt8}, l.count m = 0 → sp m l = [l]
  | [], _ => rfl
  | b :: r, h => by
    have hb : b ≠ m := fun e => by subst e; simp at h
    have hr : r.count m = 0 := by rwa [List.count_cons_of_ne hb] at h
    rw [sp, if_neg hb, sp_none hr]
theorem splitK_sp (m : UInt8) : ∀ (l : List UInt8) (k : Nat), l.count m = k → splitK [m] 0 k l = sp m l
  | [], k, h => by
    simp at h; subst h; rfl
  | b :: r, k, h => by
    by_cases hb : b = m
    · subst hb
      rw [List.count_cons_self] at h
      obtain ⟨j, rfl⟩ : ∃ j, k = j + 1 := ⟨k - 1, by omega⟩
      have hi : index (b :: r) [b] = 0 := by rw [index_one, indexByte, if_pos (by simp)]
      rw [splitK, sp, if_pos rfl, hi, if_neg (by decide)]
      simp only [Int.toNat_zero, Nat.zero_add, Nat.add_zero, List.take_zero, List.length_cons, List.length_nil, List.drop_succ_cons, List.drop_zero]
      rw [splitK_sp b r j (by omega)]
    · rw [List.count_cons_of_ne hb] at h
      cases k with
      | zero => rw [splitK, sp_none (by rw [List.count_cons_of_ne hb]; exact h)]
      | succ j =>
        have ih := splitK_sp m r (j + 1) h
        have hi : indexByte r m ≠ -1 := fun e => by
          have hz : r.count m = 0 := by
            rw [List.count_eq_zero]
            intro hm
            obtain ⟨i, hi, hri⟩ := List.getElem_of_mem hm
            exact indexByte_none e i (by rw [List.getElem?_eq_getElem hi, hri])
          omega
        have hge := indexByte_ge r m
        rw [splitK, index_one] at ih ⊢
        rw [if_neg (by simpa using hi)] at ih
        have hib : indexByte (b :: r) m = indexByte r m + 1 := by
          rw [indexByte, if_neg (by simpa using hb), if_neg (by simpa using hi)]
        rw [hib, if_neg (by simp; omega), sp, if_neg hb, ← ih]
        have e1 : (indexByte r m + 1).toNat = (indexByte r m).toNat + 1 := by omega
        rw [e1]
        simp only [Nat.add_zero, List.take_succ_cons, List.length_cons, List.length_nil, Nat.zero_add, List.drop_succ_cons]
/-- Marked words, byte by byte; p: a mark has just been, or none yet. -/
def mkR (m : UInt8) : Bool → List UInt8 → List UInt8 × List Int → Option (List UInt8 × List Int)
  | p, [], x => if p = true then none else some x
  | p, b :: r, x => if b = m then (if p = true then none else mkR m true r (x.1, x.2 ++ [(x.1.length : Int)])) else mkR m false r (x.1 ++ [b], x.2)
/-- .. part by part. -/
def mkF : Bool → List (List UInt8) → List UInt8 × List Int → Option (List UInt8 × List Int)
  | _, [], x => some x
  | f, p :: t, x => if p = [] then none else mkF false t (x.1 ++ p, if f = true then x.2 else x.2 ++ [(x.1.length : Int)])
theorem mkF_sp (m : UInt8) : ∀ l : List UInt8,
    (∀ w ps h t, sp m l = h :: t → mkR m false l (w, ps) = mkF false t (w ++ h, ps)) ∧ (∀ w ps, mkF false (sp m l) (w, ps) = mkR m true l (w, ps ++ [(w.length : Int)])) ∧ (∀ w ps, mkF true (sp m l) (w, ps) = mkR m true l (w, ps))
  | [] => by
    refine ⟨fun w ps h t e => ?_, fun w ps => ?_, fun w ps => ?_⟩
    · cases e; simp [mkR, mkF]
    · simp [sp, mkF, mkR]
    · simp [sp, mkF, mkR]
  | b :: r => by
    obtain ⟨i1, i2, i3⟩ := mkF_sp m r
    by_cases hb : b = m
    · subst hb
      refine ⟨fun w ps h t e => ?_, fun w ps => ?_, fun w ps => ?_⟩
      · rw [sp, if_pos rfl] at e
        cases e
        rw [mkR, if_pos rfl, if_neg (by simp), List.append_nil, i2]
      · rw [sp, if_pos rfl, mkF, if_pos rfl, mkR, if_pos rfl, if_pos rfl]
      · rw [sp, if_pos rfl, mkF, if_pos rfl, mkR, if_pos rfl, if_pos rfl]
    · obtain ⟨h', t', e'⟩ := sp_ne m r
      have hsp : sp m (b :: r) = (b :: h') :: t' := by rw [sp, if_neg hb, e']
      refine ⟨fun w ps h t e => ?_, fun w ps => ?_, fun w ps => ?_⟩
      · rw [hsp] at e
        cases e
        rw [mkR, if_neg hb, i1 _ _ _ _ e']
        simp
      · rw [hsp, mkF, if_neg (by simp), mkR, if_neg hb, i1 _ _ _ _ e']
        simp
      · rw [hsp, mkF, if_neg (by simp), mkR, if_neg hb, i1 _ _ _ _ e']
        simp
theorem mkTo_none {l : List UInt8} {m : UInt8} {k : Nat} (h : mkTo l m k = none) : ∀ n, k ≤ n → mkTo l m n = none
  | 0, hn => by rw [show k = 0 by omega] at h; exact h
  | n + 1, hn => by
    rcases Nat.lt_or_ge n k with h1 | h1
    · rw [show n + 1 = k by omega]; exact h
    · rw [mkTo, mkTo_none h n h1]
theorem mkTo_R (l : List UInt8) (m : UInt8) : ∀ k, k ≤ l.length → mkR m true l ([], []) = match mkTo l m k with
    | some x => mkR m (decide (k = 0) || decide (l.getD (k - 1) 0 = m)) (l.drop k) x
    | none => none
  | 0, _ => by simp [mkTo]
  | k + 1, hk => by
    have ih := mkTo_R l m k (by omega)
    rw [ih, mkTo]
    cases hx : mkTo l m k with
    | none => rfl
    | some x =>
      obtain ⟨w, ps⟩ := x
      have hd : l.drop k = l.getD k 0 :: l.drop (k + 1) := by
        rw [List.drop_eq_getElem_cons (by omega), List.getD_eq_getElem?_getD, List.getElem?_eq_getElem (by omega)]; rfl
      simp only
      rw [hd, mkR]
      by_cases hb : l.getD k 0 = m
      · rw [if_pos hb, if_pos hb]
        by_cases hp : k = 0 ∨ l.getD (k - 1) 0 = m
        · have h1 : (decide (k = 0) || decide (l.getD (k - 1) 0 = m)) = true := by
            rw [Bool.or_eq_true, decide_eq_true_eq, decide_eq_true_eq]; exact hp
          rw [if_pos h1, if_pos (by rcases hp with h | h; exact .inl h; exact .inr (.inr h))]
        · have h1 : (decide (k = 0) || decide (l.getD (k - 1) 0 = m)) = false := by
            rw [Bool.or_eq_false_iff, decide_eq_false_iff_not, decide_eq_false_iff_not]; exact ⟨fun h => hp (.inl h), fun h => hp (.inr h)⟩
          rw [h1, if_neg (by simp)]
          by_cases he : k + 1 = l.length
          · rw [if_pos (.inr (.inl he)), he, List.drop_length]; simp [mkR]
          · rw [if_neg (by intro h; rcases h with h | h | h; exact hp (.inl h); exact he h; exact hp (.inr h))]
            simp only
            have h2 : (decide (k + 1 = 0) || decide (l.getD (k + 1 - 1) 0 = m)) = true := by
              rw [Bool.or_eq_true, decide_eq_true_eq, decide_eq_true_eq]; exact .inr hb
            rw [h2]
      · rw [if_neg hb, if_neg hb]
        simp only
        have h2 : (decide (k + 1 = 0) || decide (l.getD (k + 1 - 1) 0 = m)) = false := by
          rw [Bool.or_eq_false_iff, decide_eq_false_iff_not, decide_eq_false_iff_not]; exact ⟨by omega, hb⟩
        rw [h2]
theorem mkAll_R (l : List UInt8) (m : UInt8) : mkAll l m = mkR m true l ([], []) := by
  unfold mkAll
  by_cases h0 : l = []
  · subst h0; simp [mkR]
  · rw [if_neg h0, mkTo_R l m l.length (Nat.le_refl _)]
    cases hx : mkTo l m l.length with
    | none => rfl
    | some x =>
      simp only
      rw [List.drop_length]
      have hl : 0 < l.length := List.length_pos_iff.2 h0
      have h1 : (decide (l.length = 0) || decide (l.getD (l.length - 1) 0 = m)) = false := by
        rw [Bool.or_eq_false_iff, decide_eq_false_iff_not, decide_eq_false_iff_not]
        refine ⟨by omega, fun e => ?_⟩
        obtain ⟨n, hn⟩ : ∃ n, l.length = n + 1 := ⟨l.length - 1, by omega⟩
        rw [hn, mkTo] at hx
        rw [hn, Nat.add_sub_cancel] at e
        cases hy : mkTo l m n with
        | none => rw [hy] at hx; cases hx
        | some y =>
          rw [hy] at hx
          simp only at hx
          rw [if_pos e, if_pos (.inr (.inl hn.symm))] at hx
          cases hx
      rw [h1]; simp [mkR]
/-- The parts, one by one, of the first n. -/
def ptTo (ls : List (List UInt8)) : Nat → Option (List UInt8 × List Int)
  | 0 => some ([], [])
  | n + 1 => match ptTo ls n with
    | none => none
    | some (w, ps) => if ls.getD n [] = [] then none else some (w ++ ls.getD n [], if n = 0 then ps else ps ++ [(w.length : Int)])
theorem ptTo_none {ls : List (List UInt8)} {k : Nat} (h : ptTo ls k = none) : ∀ n, k ≤ n → ptTo ls n = none
  | 0, hn => by rw [show k = 0 by omega] at h; exact h
  | n + 1, hn => by
    rcases Nat.lt_or_ge n k with h1 | h1
    · rw [show n + 1 = k by omega]; exact h
    · rw [ptTo, ptTo_none h n h1]
theorem ptTo_F (ls : List (List UInt8)) : ∀ k, k ≤ ls.length → mkF true ls ([], []) = match ptTo ls k with
    | some x => mkF (decide (k = 0)) (ls.drop k) x
    | none => none
  | 0, _ => by simp [ptTo]
  | k + 1, hk => by
    rw [ptTo_F ls k (by omega), ptTo]
    cases hx : ptTo ls k with
    | none => rfl
    | some x =>
      obtain ⟨w, ps⟩ := x
      have hd : ls.drop k = ls.getD k [] :: ls.drop (k + 1) := by
        rw [List.drop_eq_getElem_cons (by omega), List.getD_eq_getElem?_getD, List.getElem?_eq_getElem (by omega)]; rfl
      simp only
      rw [hd, mkF]
      by_cases h : ls.getD k [] = []
      · rw [if_pos h, if_pos h]
      · rw [if_neg h, if_neg h]
        simp only
        rw [decide_eq_false (show ¬ k + 1 = 0 by omega)]
        by_cases hk0 : k = 0
        · subst hk0; simp
        · rw [if_neg hk0, decide_eq_false hk0]; simp
theorem ptTo_all (l : List UInt8) (m : UInt8) : ptTo (sp m l) (sp m l).length = mkAll l m := by
  rw [mkAll_R, ← (mkF_sp m l).2.2, ptTo_F (sp m l) (sp m l).length (Nat.le_refl _)]
  cases ptTo (sp m l) (sp m l).length with
  | none => rfl
  | some x => simp only; rw [List.drop_length, mkF]
theorem splitB_sp (s : ByteArray) (m : UInt8) : (splitB ⟨#[m]⟩ 0 (countB s ⟨#[m]⟩) s).map (·.data.toList) = sp m s.data.toList := by
  rw [splitB_data]
  exact splitK_sp m _ _ (count_one m s.data.toList).symm
/-- The parts of a text, as texts. -/
def spB (m : UInt8) (s : ByteArray) : List ByteArray := splitB ⟨#[m]⟩ 0 (countB s ⟨#[m]⟩) s
theorem spB_len (m : UInt8) (s : ByteArray) : (spB m s).length = countB s ⟨#[m]⟩ + 1 := splitB_all ⟨#[m]⟩ (Nat.le_refl 1) 0 _ s rfl
theorem spB_sp (m : UInt8) (s : ByteArray) : (spB m s).length = (sp m s.data.toList).length ∧ ∀ k, ((spB m s).getD k ByteArray.empty).data.toList = (sp m s.data.toList).getD k [] := by
  have h := splitB_sp s m
  refine ⟨by rw [← h, List.length_map]; rfl, fun k => ?_⟩
  rw [← h, List.getD_eq_getElem?_getD, List.getD_eq_getElem?_getD, List.getElem?_map]
  change _ = (Option.map _ (spB m s)[k]?).getD []
  cases (spB m s)[k]? with
  | none => rfl
  | some x => rfl
/-- strings.Split at one byte. -/
def RetSp (xs : List ByteArray) (w : World) (e : Ending) (w' : World) : Prop := e = .returned (.slice (some ⟨w.heap.size, 0, none⟩) xs.length xs.length) ∧ RS w' (some ⟨w.heap.size, 0, none⟩) xs.length xs ∧ Ext w w'
theorem genSplit_one (s : ByteArray) (m : UInt8) (w : World) (hs : s.size ≤ 1000000) : Calls Tryz.prog 164 #[.string s, .string ⟨#[m]⟩, .int .i64 0, .int .i64 (-1)] w (RetSp (spB m s) w) := by
  have hle : countB s ⟨#[m]⟩ ≤ s.size := by
    show count s.data.toList [m] ≤ s.size
    rw [count_one]
    have := List.count_le_length (a := m) (l := s.data.toList)
    simpa using this
  have h := Any.strings_genSplit_core Tryz.lays221 (by kernel_rfl) s ⟨#[m]⟩ 0 (-1) (countB s ⟨#[m]⟩ + 1) w (by omega) (Nat.le_refl 1) (Nat.zero_le _)
    (fun x c _ => (Tryz.strings_Index_one x m _).mono fun e w' ⟨h1, h2⟩ => ⟨by rw [h1]; show _ = Ending.returned (Value.int .i64 (index x.data.toList [m])); rw [index_one], h2⟩)
    ((Tryz.strings_Count_one s m w).mono fun e w' ⟨h1, h2⟩ => ⟨by rw [h1]; show _ = Ending.returned (Value.int .i64 ((count s.data.toList [m] : Nat) : Int)); rw [count_one]; rfl, h2⟩)
    (by decide) (by decide) (by rw [if_pos (by decide)]; omega)
  refine h.mono fun e w' ⟨h1, h2⟩ => ?_
  rw [Nat.add_sub_cancel] at h1 h2
  change e = .returned (.slice (some ⟨w.heap.size, 0, none⟩) (spB m s).length (countB s ⟨#[m]⟩ + 1)) at h1
  rw [← spB_len] at h1 h2
  refine ⟨h1, ⟨rfl, by rw [spB_len]; omega, fun hp => ⟨w.heap.size, 0, rfl, ?_, fun k hk => ?_⟩⟩, ?_⟩
  · rw [h2]; simp
  · rw [h2, Nat.zero_add, World.cell?_alloc_new]
    change (cellsOf (spB m s) _)[k]? = _
    unfold cellsOf
    simp [List.getD_eq_getElem?_getD, hk]
  · rw [h2]; exact (Ext.refl w).alloc _
theorem split_one (s : ByteArray) (m : UInt8) (w : World) (hs : s.size ≤ 1000000) : Calls Tryz.prog 157 #[.string s, .string ⟨#[m]⟩] w (RetSp (spB m s) w) := by
  have CG := Lib.hid fun W => genSplit_one s m W hs
  go_enter Tryz.func157, Tryz.ntmps157
  go_wp2_with (first | (go_at_call 164; refine Calls.mono (CG.out _) ?_; rintro e w1 ⟨rfl, hr, hx⟩))
  go_ret
  exact ⟨rfl, hr, hx⟩
end Go.Proofs.YtccdnieoaejgdaaGreatDoor
namespace Go.Proofs.YtccdnieoaejgdaaGreatDoor
open Go.RowKit Go.Lib

/-- The answer of parted. -/
def RetMk (o : Option (List UInt8 × List Int)) (w : World) (e : Ending) (w' : World) : Prop :=
  (∃ x A c, o = some x ∧ e = .returned (.tuple #[.string (strL x.1), .slice A x.2.length c, .bool true]) ∧ SL w' w.heap.size A c x.2 ∧ Ext w w') ∨
  (o = none ∧ e = .returned (.tuple #[.string ⟨#[]⟩, .slice none 0 0, .bool false]) ∧ Ext w w')
theorem ptTo_len {ls : List (List UInt8)} : ∀ {n : Nat} {x : List UInt8 × List Int}, ptTo ls n = some x → x.2.length ≤ n
  | 0, x, h => by cases h; simp
  | n + 1, x, h => by
    rw [ptTo] at h
    cases hp : ptTo ls n with
    | none => rw [hp] at h; cases h
    | some y =>
      obtain ⟨w, ps⟩ := y
      rw [hp] at h
      simp only at h
      split at h
      · cases h
      · cases h
        have := ptTo_len hp
        simp only
        split
        · simp only at this; omega
        · simp only [List.length_append, List.length_cons, List.length_nil]; simp only at this; omega
theorem sp_total (m : UInt8) : ∀ l : List UInt8, ((sp m l).map List.length).sum + (sp m l).length = l.length + 1
  | [] => by simp [sp]
  | b :: r => by
    have ih := sp_total m r
    unfold sp
    split
    · simp; omega
    · obtain ⟨h, t, e⟩ := sp_ne m r
      rw [e] at ih ⊢
      simp at ih ⊢; omega
theorem ptTo_word {ls : List (List UInt8)} : ∀ {n : Nat} {x : List UInt8 × List Int}, n ≤ ls.length → ptTo ls n = some x → x.1.length = ((ls.take n).map List.length).sum
  | 0, x, _, h => by cases h; simp
  | n + 1, x, hn, h => by
    rw [ptTo] at h
    cases hp : ptTo ls n with
    | none => rw [hp] at h; cases h
    | some y =>
      obtain ⟨w, ps⟩ := y
      rw [hp] at h
      simp only at h
      split at h
      · cases h
      · cases h
        have ih := ptTo_word (by omega) hp
        simp only at ih ⊢
        rw [List.take_succ_eq_append_getElem (by omega), List.map_append, List.sum_append, List.length_append, ih, List.getD_eq_getElem?_getD, List.getElem?_eq_getElem (by omega)]
        simp only [Option.getD_some, List.map_cons, List.map_nil, List.sum_cons, List.sum_nil, Nat.add_zero]
theorem ptTo_bd {ls : List (List UInt8)} {n : Nat} {x : List UInt8 × List Int} (hn : n ≤ ls.length) (h : ptTo ls n = some x) : x.1.length ≤ (ls.map List.length).sum := by
  rw [ptTo_word hn h]
  have h5 := List.take_append_drop n ls
  conv => rhs; rw [← h5]
  rw [List.map_append, List.sum_append]; omega
set_option maxRecDepth 100000 in
set_option maxHeartbeats 4000000 in
theorem parted_any (s : ByteArray) (m : UInt8) (w : World) (hs : s.size ≤ 100) : Calls Tryz.prog 140 #[.string s, .string ⟨#[m]⟩] w (RetMk (mkAll s.data.toList m) w) := by
  have CSP := Lib.hid fun W => split_one s m W (by omega)
  have HL := Lib.hid (spB_sp m s)
  have HALL := Lib.hid (ptTo_all s.data.toList m)
  have HTOT := Lib.hid (sp_total m s.data.toList)
  have HSS : Hid (s.data.toList.length ≤ 100) := Lib.hid (by simpa using hs)
  generalize mkAll s.data.toList m = o at *
  generalize spB m s = xs at *
  generalize sp m s.data.toList = ls at *
  go_enter Tryz.func140, Tryz.ntmps140
  go_upto_region 5 with (first | (go_at_call 157; refine Calls.mono (CSP.out _) ?_; rintro e w1 ⟨rfl, hr, hx⟩; have HR := Lib.hid hr; have HX := Lib.hid hx; clear hr hx))
  have hb : xs.length ≤ 101 := by have h1 := HL.out.1; have h2 := HTOT.out; have h3 := HSS.out; omega
  have hb2 : xs.length ≤ 9223372036854775807 := by omega
  generalize some (Addr.mk w.heap.size 0 none) = A at *
  have HO0 := Lib.hid (Own.nil w1 w1.heap.size)
  have HXX := Lib.hid (Ext.refl w1)
  go_loopw [17, 8, 9, 10, 11] (fun v17 v8 v9 _ _ wr => ∃ (k : Nat) (x : List UInt8 × List Int), k ≤ xs.length ∧ v17 = .int .i64 (k : Int) ∧ v8 = .string (strL x.1) ∧ Hid (ptTo ls k = some x) ∧ Hid (Own wr w1.heap.size v9 x.2) ∧ Hid (Ext w1 wr)) (fun v17 _ _ _ _ _ => xs.length - (intOf v17).toNat)
  case atStart => exact ⟨0, ([], []), Nat.zero_le _, rfl, rfl, Lib.hid rfl, HO0, HXX⟩
  case round =>
    clear HO0 HXX
    obtain ⟨k, ⟨wd, ps⟩, hk, rfl, rfl, HT, HO, HX2⟩ := hrel
    simp only at HO HT
    have HPL : Hid (ps.length ≤ k) := Lib.hid (ptTo_len HT.out)
    have HWL : Hid (wd.length ≤ 101) := Lib.hid (by
      have h1 := ptTo_bd (by rw [← HL.out.1]; exact hk) HT.out
      have h2 := HTOT.out; have h3 := HSS.out
      simp only at h1
      omega)
    by_cases hlt : k < xs.length
    case pos =>
      have ik : (k : Int) < (xs.length : Int) := by omega
      obtain ⟨b, off, hA, hbl, hbc⟩ := (HR.out.ext HX2.out).2.2 (by omega)
      subst hA
      have c0 := hbc k hlt
      have HG := Lib.hid (HL.out.2 k)
      have HPT : Hid (ptTo ls (k + 1) = if ls.getD k [] = [] then none else some (wd ++ ls.getD k [], if k = 0 then ps else ps ++ [(wd.length : Int)])) := Lib.hid (by rw [ptTo, HT.out])
      generalize xs.getD k ByteArray.empty = x at *
      by_cases hx0 : x.data.toList = []
      case pos =>
        obtain rfl : x = ⟨#[]⟩ := bytes_ext hx0
        have HNO : Hid (o = none) := Lib.hid (by
          rw [← HALL.out]
          refine ptTo_none (k := k + 1) ?_ _ (by rw [← HL.out.1]; omega)
          rw [HPT.out, if_pos (by rw [← HG.out])])
        clear hbc hx0
        go_wp2
        go_ret3
        exact .inr ⟨HNO.out, rfl, HX.out.trans HX2.out⟩
      case neg =>
        rw [if_neg (by rw [← HG.out]; exact hx0)] at HPT
        have hxs : x.size ≤ 101 := by
          have h1 := ptTo_bd (by rw [← HL.out.1]; omega) HPT.out
          have h2 := HTOT.out; have h3 := HSS.out
          have h4 : x.size = (ls.getD k []).length := by rw [← HG.out]; simp
          simp only [List.length_append] at h1
          omega
        have hz1 : (strL wd).size ≤ 101 := by rw [strL_size]; exact HWL.out
        have HZ1 := Lib.hid (strL_size wd)
        have hap : strL wd ++ x = strL (wd ++ ls.getD k []) := by rw [← HG.out]; exact bytes_ext (by rw [ByteArray.data_append]; simp [strL])
        have e1 : x.toList.isEmpty = false := by rw [Go.ByteArray.toList_eq, List.isEmpty_eq_false_iff]; exact hx0
        have e2 : ¬ x.toList = [] := by rw [Go.ByteArray.toList_eq]; exact hx0
        clear hbc
        by_cases hk0 : k = 0
        case pos =>
          subst hk0
          rw [Nat.add_zero] at c0
          rw [if_pos rfl] at HPT
          go_wp2
          go_roundw
          case rel => exact ⟨1, _, by omega, by go_num, rfl, HPT, HO, HX2⟩
          case measure => simp [intOf]; omega
        case neg =>
          have ik0 : (0 : Int) < (k : Int) := by omega
          have ik0' : 0 < k := by omega
          rw [if_neg hk0] at HPT
          have hwl : ((strL wd).size : Int) = (wd.length : Int) := by rw [HZ1.out]
          clear hk0
          go_upto_region 11 with (first | (at_builtin; refine list_push rfl (.tmp 26) (.tmp 29) rfl w1.heap.size _ ps rfl (HO.out.ext (by repeat (first | exact Ext.refl _ | assumption | refine Ext.alloc ?_ _ | refine Ext.drew ?_ | refine Ext.drewN ?_ _ | (refine Ext.setCell ?_ (by simp <;> omega) _) | refine Ext.trans ?_ (by assumption)))) wr.heap.size (wd.length : Int) rfl (by simp [HZ1.out]) (by have := HPL.out; omega) (by have := HX2.out.size; simp; omega) ?_; intro v' w' ho hg; have HO2 := Lib.hid ho; have HX3 : Hid (Ext w1 w') := Lib.hid (own_ext hg (HO.out.ext (by repeat (first | exact Ext.refl _ | assumption | refine Ext.alloc ?_ _ | refine Ext.drew ?_ | refine Ext.drewN ?_ _ | (refine Ext.setCell ?_ (by simp <;> omega) _) | refine Ext.trans ?_ (by assumption)))) (HX2.out.trans (by repeat (first | exact Ext.refl _ | assumption | refine Ext.alloc ?_ _ | refine Ext.drew ?_ | refine Ext.drewN ?_ _ | (refine Ext.setCell ?_ (by simp <;> omega) _) | refine Ext.trans ?_ (by assumption))))); clear ho hg))
          go_wp2
          go_roundw
          case rel => exact ⟨k + 1, _, by omega, by go_num, rfl, HPT, HO2, HX3⟩
          case measure => simp [intOf]; omega
    case neg =>
      obtain rfl : k = xs.length := by omega
      have ik : ¬ (xs.length : Int) < (xs.length : Int) := by omega
      have HYES : Hid (o = some (wd, ps)) := Lib.hid (by rw [← HALL.out, ← HL.out.1]; exact HT.out)
      obtain ⟨A9, c9, rfl, hc9, hr9⟩ := HO.out.form (by have := HPL.out; omega)
      go_wp2
      go_ret3
      exact .inl ⟨(wd, ps), A9, c9, HYES.out, rfl, (⟨HO.out, hr9, hc9⟩ : SL _ _ _ _ _).mono HX.out.size, HX.out.trans HX2.out⟩
end Go.Proofs.YtccdnieoaejgdaaGreatDoor
namespace Go.Proofs.YtccdnieoaejgdaaGreatDoor
open Go.RowKit Go.Lib

theorem ptrElt : Elt 132 133 1 8 (.pointer none) := ⟨Tryz.underlying132, by kernel_rfl, rfl, by decide, by decide⟩
section
variable {W W' : World} {base p g : Nat} {q : Pat} {T : TypeId} {cs : Array Value}
/-- A map grows: all cells lie on. -/
theorem CellsOn.of_map {b n : Nat} {f : List UInt8 → Option (List Int)} (h : KI W b n f) (hg : W.grownBy W' (some b)) : CellsOn W W' :=
  ⟨hg.size, fun k cs t fr hk => (hg.block k (Array.getElem?_eq_some_iff.1 hk).1 (fun e => by
    obtain rfl : k = b := Option.some.inj e
    obtain ⟨F, ⟨D, ⟨es, clock, hb, _⟩, _⟩, _⟩ := h.ex
    rw [hk] at hb; cases hb)).trans hk⟩
theorem Blk.on (h : Blk W g T cs) (hc : CellsOn W W') : Blk W' g T cs := hc.same g cs T _ h
theorem SL.on {A : Option Addr} {c : Nat} {zs : List Int} (h : SL W base A c zs) (hc : CellsOn W W') : SL W' base A c zs := ⟨hc.own h.own, hc.ri h.ri, h.cap⟩
theorem PatR.on (h : PatR W base p q) (hc : CellsOn W W') : PatR W' base p q := by
  obtain ⟨A, c, h1, h2⟩ := h.ex
  exact ⟨h.ge, A, c, h1.on hc, h2.on hc⟩
/-- A block of another type grows. -/
theorem blk_other {t : TypeId} {ds : Array Value} (h : Blk W p t ds) (hg : W.grownBy W' (some g)) (hb : Blk W g T cs) (hT : T ≠ t) : Blk W' p t ds :=
  (hg.block p h.lt (fun e => by
    obtain rfl : p = g := Option.some.inj e
    unfold Blk at h hb; rw [h] at hb; cases hb; exact hT rfl)).trans h
theorem SL.other {A : Option Addr} {c : Nat} {zs : List Int} (h : SL W base A c zs) (hz : zs.length ≤ 1000000) (hg : W.grownBy W' (some g)) (hb : Blk W g T cs) (hT : T ≠ 3) : SL W' base A c zs := by
  refine SL.of_own ?_ hz
  refine World.ownsRow.kept h.own hg ?_
  cases hu : (Value.slice A zs.length c).ownBlock with
  | none => exact .inl rfl
  | some k =>
    refine .inr fun e => ?_
    obtain rfl : k = g := Option.some.inj e
    obtain ⟨c1, b1⟩ := own_is h.own hu
    unfold Blk at b1 hb
    rw [hb] at b1
    injection b1 with b1
    injection b1 with _ b1 _
    exact hT b1
theorem PatR.other (h : PatR W base p q) (hq : q.lv.length ≤ 1000) (hg : W.grownBy W' (some g)) (hb : Blk W g T cs) (h1 : T ≠ 3) (h2 : T ≠ 188) : PatR W' base p q := by
  obtain ⟨A, c, k1, k2⟩ := h.ex
  exact ⟨h.ge, A, c, blk_other k1 hg hb h2, k2.other (by omega) hg hb h1⟩
theorem KI.on {b n : Nat} {f : List UInt8 → Option (List Int)} {row : Option Nat} (h : KI W b n f) (hg : W.grownBy W' row) (hne : some b ≠ row) (hc : CellsOn W W') : KI W' b n f := by
  obtain ⟨F, hk, hf⟩ := h.ex
  refine ⟨F, hk.kept hg hne, fun l => ?_⟩
  have := hf l
  cases hfl : f l with
  | none => rw [hfl] at this; exact this
  | some zs => rw [hfl] at this; obtain ⟨A, c, h1, h2⟩ := this; exact ⟨A, c, h1, h2.on hc⟩
end
/-- Pointers to patterns, laid one behind the other into a row of one's own. -/
structure PsW (w W : World) (v : Value) (ps : List Pat) : Prop where
  ex : ∃ ptrs : List Nat, ptrs.length = ps.length ∧ W.ownsRow w.heap.size 133 1 v ps.length (ptrs.map fun p => .pointer (some ⟨p, 0, none⟩)) ∧ ∀ k, k < ps.length → PatR W 0 (ptrs.getD k 0) (ps.getD k Pat.zero) ∧ (ps.getD k Pat.zero).lv.length ≤ 1000
section
variable {w W W' : World} {v : Value} {ps : List Pat}
theorem PsW.nil (w W : World) : PsW w W (.slice none 0 0) [] := ⟨⟨[], rfl, World.ownsRow_nil _ _ _ _, fun k hk => absurd hk (by simp)⟩⟩
theorem PsW.ext (h : PsW w W v ps) (hx : Ext W W') : PsW w W' v ps := by
  obtain ⟨ptrs, h1, h2, h3⟩ := h.ex
  exact ⟨⟨ptrs, h1, own_later h2 hx, fun k hk => ⟨(h3 k hk).1.ext hx, (h3 k hk).2⟩⟩⟩
theorem PsW.form (h : PsW w W v ps) (hn : ps.length ≤ 1000) : ∃ A c, v = .slice A ps.length c ∧ PaR W A ps := by
  obtain ⟨ptrs, h1, h2, h3⟩ := h.ex
  obtain ⟨A, c, rfl, hr⟩ := own_form h2 (by omega)
  refine ⟨A, c, rfl, by omega, fun hp => ?_⟩
  obtain ⟨b, off, rfl, hb, hc⟩ := hr.2.2 hp
  refine ⟨b, off, rfl, hb, fun k hk => ⟨ptrs.getD k 0, ?_, (h3 k hk).1⟩⟩
  refine hc k _ ?_
  rw [List.getElem?_map, List.getElem?_eq_getElem (by omega), List.getD_eq_getElem?_getD, List.getElem?_eq_getElem (by omega)]; rfl
theorem PsW.slice (h : PsW w W v ps) : ∃ A n c, v = .slice A n c := by
  obtain ⟨ptrs, h1, h2, h3⟩ := h.ex
  rcases h2.2 with ⟨k1, k2⟩ | ⟨g, cap, cur, hv, _⟩
  · exact ⟨none, 0, 0, k1⟩
  · exact ⟨_, _, _, hv⟩
/-- A block of another type is stored into. -/
theorem PsW.far {p : Nat} {T : TypeId} {cs : Array Value} (h : PsW w W v ps) (hb : Blk W p T cs) (h1 : T ≠ 3) (h2 : T ≠ 188) (h3 : T ≠ 133) (i : Nat) (y : Value) : PsW w (W.setCell ⟨p, i, none⟩ y) v ps := by
  obtain ⟨ptrs, k1, k2, k3⟩ := h.ex
  have hg : W.grownBy (W.setCell ⟨p, i, none⟩ y) (some p) := ⟨rfl, rfl, rfl, by simp [World.setCell], fun k _ hn => Below.heap_setCell W ⟨p, i, none⟩ y k (fun e => hn (by rw [e]))⟩
  refine ⟨⟨ptrs, k1, World.ownsRow.kept k2 hg ?_, fun k hk => ⟨(k3 k hk).1.other (k3 k hk).2 hg hb h1 h2, (k3 k hk).2⟩⟩⟩
  cases hu : v.ownBlock with
  | none => exact .inl rfl
  | some k =>
    refine .inr fun e => ?_
    obtain rfl : k = p := Option.some.inj e
    obtain ⟨c1, b1⟩ := own_is k2 hu
    unfold Blk at b1 hb
    rw [hb] at b1
    injection b1 with b1
    injection b1 with _ b1 _
    exact h3 b1
/-- One more pattern. -/
theorem PsW.push {v' : Value} {p : Nat} {q : Pat} {ptrs : List Nat} (k1 : ptrs.length = ps.length) (k2 : W.ownsRow w.heap.size 133 1 v ps.length (ptrs.map fun p => .pointer (some ⟨p, 0, none⟩))) (k3 : ∀ k, k < ps.length → PatR W 0 (ptrs.getD k 0) (ps.getD k Pat.zero) ∧ (ps.getD k Pat.zero).lv.length ≤ 1000)
    (hg : W.grownBy W' v.ownBlock) (ho : W'.ownsRow w.heap.size 133 1 v' (ps.length + 1) ((ptrs.map fun p => .pointer (some ⟨p, 0, none⟩)) ++ [.pointer (some ⟨p, 0, none⟩)]))
    (hp : PatR W 0 p q) (hq : q.lv.length ≤ 1000) : PsW w W' v' (ps ++ [q]) := by
  have keep : ∀ p q, PatR W 0 p q → q.lv.length ≤ 1000 → PatR W' 0 p q := fun p q hp hq => by
    cases hu : v.ownBlock with
    | none => rw [hu] at hg; exact hp.ext (Ext.grown (Ext.refl W) hg (fun k e => by cases e))
    | some g =>
      rw [hu] at hg
      obtain ⟨cur, hb⟩ := own_is k2 hu
      exact hp.other hq hg hb (by decide) (by decide)
  refine ⟨⟨ptrs ++ [p], by simp [k1], ?_, fun k hk => ?_⟩⟩
  · rw [List.length_append, List.map_append]
    exact ho
  · by_cases hkl : k < ps.length
    · have e1 : (ptrs ++ [p]).getD k 0 = ptrs.getD k 0 := by
        rw [List.getD_eq_getElem?_getD, List.getElem?_append_left (by omega), ← List.getD_eq_getElem?_getD]
      have e2 : (ps ++ [q]).getD k Pat.zero = ps.getD k Pat.zero := by
        rw [List.getD_eq_getElem?_getD, List.getElem?_append_left hkl, ← List.getD_eq_getElem?_getD]
      rw [e1, e2]
      exact ⟨keep _ _ (k3 k hkl).1 (k3 k hkl).2, (k3 k hkl).2⟩
    · have hk2 : k = ps.length := by simp at hk; omega
      subst hk2
      have e1 : (ptrs ++ [p]).getD ps.length 0 = p := by
        rw [List.getD_eq_getElem?_getD, List.getElem?_append_right (by omega), k1, Nat.sub_self]; rfl
      have e2 : (ps ++ [q]).getD ps.length Pat.zero = q := by
        rw [List.getD_eq_getElem?_getD, List.getElem?_append_right (by omega), Nat.sub_self]; rfl
      rw [e1, e2]
      exact ⟨keep _ _ hp hq, hq⟩
end
end Go.Proofs.YtccdnieoaejgdaaGreatDoor
namespace Go.Proofs.YtccdnieoaejgdaaGreatDoor
open Go.RowKit Go.Lib

theorem mkOk_small (x : List UInt8 × List Int) : smWord (strL x.1) = mkOk true x := by
  unfold smWord mkOk
  rw [strL_list, strL_size, if_pos rfl, Bool.and_comm]
theorem mkOk_word (x : List UInt8 × List Int) : (wordB (strL x.1) && decide (0 < x.2.length)) = mkOk false x := by
  unfold mkOk
  rw [wordB_eq, strL_list, strL_size, if_neg (by simp)]
  cases printL x.1 <;> simp [Bool.and_comm, Bool.and_assoc]
theorem right1_any (x : List UInt8 × List Int) (A : Option Addr) (n c : Nat) (w : World) (hx : x.1.length ≤ 1000) : Calls Tryz.prog 138 #[.string (strL x.1), .slice A n c] w (Ret (.bool (mkOk true x)) w) := by
  have CS := Lib.hid fun W => isSmallWord_any (strL x.1) W (by rw [strL_size]; omega)
  rw [mkOk_small] at CS
  generalize mkOk true x = b at *
  go_enter Tryz.func138, Tryz.ntmps138
  go_wp2_with (first | (go_at_call 107; refine Calls.mono (CS.out _) ?_; rintro e w1 ⟨rfl, rfl⟩))
  go_ret
  exact ⟨rfl, Ext.refl _⟩
theorem right2_any (x : List UInt8 × List Int) (A : Option Addr) (c : Nat) (w : World) (hx : x.1.length ≤ 1000) (hn : x.2.length ≤ 1000) : Calls Tryz.prog 139 #[.string (strL x.1), .slice A x.2.length c] w (Ret (.bool (mkOk false x)) w) := by
  have CS := Lib.hid fun W => isWord_any (strL x.1) W (by rw [strL_size]; omega)
  have HM := Lib.hid (mkOk_word x)
  generalize mkOk false x = b at *
  have hn2 : x.2.length ≤ 9223372036854775807 := by omega
  cases hw : wordB (strL x.1)
  · rw [hw] at CS HM
    have HB : Hid (b = false) := Lib.hid HM.out.symm
    go_enter Tryz.func139, Tryz.ntmps139
    go_wp2_with (first | (go_at_call 69; refine Calls.mono (CS.out _) ?_; rintro e w1 ⟨rfl, hx⟩))
    go_ret
    exact ⟨by rw [HB.out]; rfl, hx⟩
  · rw [hw] at CS HM
    by_cases h0 : 0 < x.2.length
    · have HB : Hid (b = true) := Lib.hid (by rw [← HM.out, decide_eq_true h0]; rfl)
      have i0 : (0 : Int) < (x.2.length : Int) := by omega
      go_enter Tryz.func139, Tryz.ntmps139
      go_wp2_with (first | (go_at_call 69; refine Calls.mono (CS.out _) ?_; rintro e w1 ⟨rfl, hx⟩))
      go_ret
      exact ⟨by rw [HB.out]; rfl, hx⟩
    · have HB : Hid (b = false) := Lib.hid (by rw [← HM.out, decide_eq_false h0]; rfl)
      have i0 : ¬ (0 : Int) < (x.2.length : Int) := by omega
      go_enter Tryz.func139, Tryz.ntmps139
      go_wp2_with (first | (go_at_call 69; refine Calls.mono (CS.out _) ?_; rintro e w1 ⟨rfl, hx⟩))
      go_ret
      exact ⟨by rw [HB.out]; rfl, hx⟩
theorem mkBad_some {lt : Bool} {m : UInt8} {l : List ByteArray} {k : Nat} (h : mkBad lt m l k = none) (he : mkErr lt m l k ≠ 0) : ∀ n, k < n → mkBad lt m l n = some k
  | 0, hn => absurd hn (by omega)
  | n + 1, hn => by
    rw [mkBad]
    rcases Nat.lt_or_ge k n with h1 | h1
    · rw [mkBad_some h he n h1]
    · obtain rfl : n = k := by omega
      rw [h]; simp only; rw [if_neg he]
theorem mkBad_next {lt : Bool} {m : UInt8} {l : List ByteArray} {k : Nat} (h : mkBad lt m l k = none) (he : mkErr lt m l k = 0) : mkBad lt m l (k + 1) = none := by
  rw [mkBad, h]; simp only; rw [if_pos he]
theorem patBad_some {l : List ByteArray} {k : Nat} (h : patBad l k = none) (he : patOf (l.getD k ByteArray.empty).data.toList = none) : ∀ n, k < n → patBad l n = some k
  | 0, hn => absurd hn (by omega)
  | n + 1, hn => by
    rw [patBad]
    rcases Nat.lt_or_ge k n with h1 | h1
    · rw [patBad_some h he n h1]
    · obtain rfl : n = k := by omega
      rw [h]; simp only; rw [he]
theorem patBad_next {l : List ByteArray} {k : Nat} {q : Pat} (h : patBad l k = none) (he : patOf (l.getD k ByteArray.empty).data.toList = some q) : patBad l (k + 1) = none := by
  rw [patBad, h]; simp only; rw [he]
/-- The ruler under way: its box of rules b1, the ruler rb, the patterns so far, the maps me and mb. -/
structure RuW (w : World) (r : RU) (a : RuA) (b1 rb me mb : Nat) (v : Value) (ps : List Pat) (ne nb : Nat) (fe fb : List UInt8 → Option (List Int)) (W : World) : Prop where
  ext : Ext w W
  bx : Blk W b1 24 #[.slice a.pa r.pats.length a.pc, .slice a.ea r.excs.length a.ec, .slice a.ba r.bars.length a.bc, .int .i64 r.left, .int .i64 r.right]
  blk : Blk W rb 136 #[.slice a.pa r.pats.length a.pc, .slice a.ea r.excs.length a.ec, .slice a.ba r.bars.length a.bc, .int .i64 r.left, .int .i64 r.right, v, .map (some me), .map (some mb)]
  ps_ : PsW w W v ps
  exc : KI W me ne fe
  bar : KI W mb nb fb
  lo : w.heap.size ≤ rb ∧ w.heap.size ≤ me ∧ w.heap.size ≤ mb ∧ me ≠ mb
section
variable {w W W' : World} {r : RU} {a : RuA} {b1 rb me mb ne nb : Nat} {v v' : Value} {ps : List Pat} {fe fb : List UInt8 → Option (List Int)}
theorem RuW.ext' (h : RuW w r a b1 rb me mb v ps ne nb fe fb W) (hx : Ext W W') : RuW w r a b1 rb me mb v ps ne nb fe fb W' :=
  ⟨h.ext.trans hx, h.bx.ext hx, h.blk.ext hx, h.ps_.ext hx, h.exc.ext hx, h.bar.ext hx, h.lo⟩
/-- Another pattern is laid behind the others; then the ruler's field is set. -/
theorem RuW.push {q : Pat} (h : RuW w r a b1 rb me mb v ps ne nb fe fb W) (hg : W.grownBy W' v.ownBlock) (hp : PsW w W' v' (ps ++ [q])) (hn : ∀ k, v.ownBlock = some k → w.heap.size ≤ k ∧ ∃ cur, Blk W k 133 cur) :
    RuW w r a b1 rb me mb v' (ps ++ [q]) ne nb fe fb (W'.setCell ⟨rb, 5, none⟩ v') := by
  have keep : ∀ {g : Nat} {T : TypeId} {cs : Array Value}, Blk W g T cs → T ≠ 133 → Blk W' g T cs := fun hb hT => by
    refine (hg.block _ hb.lt fun e => ?_).trans hb
    obtain ⟨_, cur, hc⟩ := hn _ e.symm
    unfold Blk at hb hc
    rw [hb] at hc; cases hc; exact hT rfl
  have hmp : ∀ {b n : Nat} {f : List UInt8 → Option (List Int)}, KI W b n f → KI W' b n f := fun hk => by
    obtain ⟨F, kv, hf⟩ := hk.ex
    refine ⟨F, kv.kept hg (fun e => ?_), fun l => ?_⟩
    · obtain ⟨_, cur, hc⟩ := hn _ e.symm
      obtain ⟨D, ⟨es, clock, hb, _⟩, _⟩ := kv
      unfold Blk at hc
      rw [hb] at hc; cases hc
    · have := hf l
      split at this
      · exact this
      · rename_i zs e
        obtain ⟨A, c, h1, h2⟩ := this
        refine ⟨A, c, h1, ?_⟩
        refine ⟨World.ownsRow.kept h2.own hg ?_, ?_, h2.cap⟩
        · cases hu : (Value.slice A zs.length c).ownBlock with
          | none => exact .inl rfl
          | some k =>
            refine .inr fun e => ?_
            obtain ⟨_, cur, hc⟩ := hn _ e.symm
            obtain ⟨c1, b1⟩ := own_is h2.own hu
            unfold Blk at b1 hc
            rw [b1] at hc; cases hc
        · refine ⟨h2.ri.1, h2.ri.2.1, fun hp => ?_⟩
          obtain ⟨g, off, rfl, hlt, hcl⟩ := h2.ri.2.2 hp
          refine ⟨g, off, rfl, Nat.lt_of_lt_of_le hlt hg.size, fun k hk9 => ?_⟩
          rw [World.cell?_of_block (w := W) (a := ⟨g, off + k, none⟩) (hg.block g hlt (fun e => ?_))]
          · exact hcl k hk9
          · obtain ⟨_, cur, hc⟩ := hn _ e.symm
            have hgo : g = (Addr.mk g off none).block := rfl
            have hob : (Value.slice (some ⟨g, off, none⟩) zs.length c).ownBlock = some g := rfl
            obtain ⟨c1, b1⟩ := own_is h2.own hob
            unfold Blk at b1 hc
            rw [b1] at hc; cases hc
  have hx : Ext w W' := h.ext.grown hg fun k e => (hn k e).1
  have hb5 : Blk (W'.setCell ⟨rb, 5, none⟩ v') rb 136 #[.slice a.pa r.pats.length a.pc, .slice a.ea r.excs.length a.ec, .slice a.ba r.bars.length a.bc, .int .i64 r.left, .int .i64 r.right, v', .map (some me), .map (some mb)] := by
    have := (keep h.blk (by decide)).set_ 5 v'
    simpa using this
  have hne : b1 ≠ rb := fun e => by
    have h1 := h.bx; have h2 := h.blk
    subst e
    unfold Blk at h1 h2
    rw [h1] at h2; injection h2 with h2; injection h2 with _ h2 _; exact absurd h2 (by decide)
  have hgs : W'.grownBy (W'.setCell ⟨rb, 5, none⟩ v') (some rb) := ⟨rfl, rfl, rfl, by simp [World.setCell], fun k _ hn => Below.heap_setCell W' ⟨rb, 5, none⟩ v' k (fun e => hn (by rw [e]))⟩
  have hms : ∀ {b n : Nat} {f : List UInt8 → Option (List Int)}, KI W' b n f → KI (W'.setCell ⟨rb, 5, none⟩ v') b n f := fun hk => by
    obtain ⟨F, kv, hf⟩ := hk.ex
    have hrb := keep h.blk (by decide)
    refine ⟨F, kv.kept hgs (fun e => ?_), fun l => ?_⟩
    · obtain ⟨D, ⟨es, clock, hb, _⟩, _⟩ := kv
      obtain rfl := Option.some.inj e
      unfold Blk at hrb
      rw [hb] at hrb; cases hrb
    · have := hf l
      split at this
      · exact this
      · rename_i zs e
        obtain ⟨A, c, h1, h2⟩ := this
        refine ⟨A, c, h1, ?_⟩
        refine ⟨World.ownsRow.kept h2.own hgs ?_, ?_, h2.cap⟩
        · cases hu : (Value.slice A zs.length c).ownBlock with
          | none => exact .inl rfl
          | some k =>
            refine .inr fun e => ?_
            obtain rfl := Option.some.inj e
            obtain ⟨c1, b1⟩ := own_is h2.own hu
            unfold Blk at b1 hrb
            rw [b1] at hrb; injection hrb with hrb; injection hrb with _ hrb _; exact absurd hrb (by decide)
        · refine ⟨h2.ri.1, h2.ri.2.1, fun hp => ?_⟩
          obtain ⟨g, off, rfl, hlt, hcl⟩ := h2.ri.2.2 hp
          refine ⟨g, off, rfl, Nat.lt_of_lt_of_le hlt hgs.size, fun k hk9 => ?_⟩
          rw [World.cell?_of_block (w := W') (a := ⟨g, off + k, none⟩) (hgs.block g hlt (fun e => ?_))]
          · exact hcl k hk9
          · obtain rfl := Option.some.inj e
            have hob : (Value.slice (some ⟨g, off, none⟩) zs.length c).ownBlock = some g := rfl
            obtain ⟨c1, b1⟩ := own_is h2.own hob
            unfold Blk at b1 hrb
            rw [b1] at hrb; injection hrb with hrb; injection hrb with _ hrb _; exact absurd hrb (by decide)
  exact ⟨hx.setCell (p := ⟨rb, 5, none⟩) h.lo.1 _, (keep h.bx (by decide)).far hne _, hb5, hp.far (keep h.blk (by decide)) (by decide) (by decide) (by decide) _ _, hms (hmp h.exc), hms (hmp h.bar), h.lo⟩
theorem RuW.step {p : Nat} {q : Pat} {ptrs : List Nat} (h : RuW w r a b1 rb me mb v ps ne nb fe fb W) (k1 : ptrs.length = ps.length) (k2 : W.ownsRow w.heap.size 133 1 v ps.length (ptrs.map fun p => .pointer (some ⟨p, 0, none⟩)))
    (k3 : ∀ k, k < ps.length → PatR W 0 (ptrs.getD k 0) (ps.getD k Pat.zero) ∧ (ps.getD k Pat.zero).lv.length ≤ 1000) (hp : PatR W 0 p q) (hq : q.lv.length ≤ 1000)
    (ho : W'.ownsRow w.heap.size 133 1 v' (ps.length + 1) ((ptrs.map fun p => .pointer (some ⟨p, 0, none⟩)) ++ [.pointer (some ⟨p, 0, none⟩)])) (hg : W.grownBy W' v.ownBlock) :
    ∃ A n c, v' = .slice A n c ∧ RuW w r a b1 rb me mb (.slice A n c) (ps ++ [q]) ne nb fe fb (W'.setCell ⟨rb, 5, none⟩ (.slice A n c)) ∧ W'.cell? ⟨rb, 5, none⟩ = some v ∧ W'.frozen? ⟨rb, 5, none⟩ = false ∧ rb < W'.heap.size := by
  have hn : ∀ k, v.ownBlock = some k → w.heap.size ≤ k ∧ ∃ cur, Blk W k 133 cur := fun k hk => ⟨(World.ownsRow.lt k2 k hk).1, own_is k2 hk⟩
  have hps := PsW.push (w := w) k1 k2 k3 hg ho hp hq
  obtain ⟨A, n, c, rfl⟩ := hps.slice
  have hb : Blk W' rb 136 #[.slice a.pa r.pats.length a.pc, .slice a.ea r.excs.length a.ec, .slice a.ba r.bars.length a.bc, .int .i64 r.left, .int .i64 r.right, v, .map (some me), .map (some mb)] := by
    refine (hg.block _ h.blk.lt fun e => ?_).trans h.blk
    obtain ⟨_, cur, hc⟩ := hn _ e.symm
    have hb := h.blk
    unfold Blk at hb hc
    rw [hb] at hc; injection hc with hc; injection hc with _ hc _; exact absurd hc (by decide)
  exact ⟨A, n, c, rfl, h.push hg hps hn, hb.cell 5 _ rfl, hb.frozen 5, hb.lt⟩
/-- A word goes into the first map, or into the second one. -/
theorem RuW.putE {ne' : Nat} {fe' : List UInt8 → Option (List Int)} (h : RuW w r a b1 rb me mb v ps ne nb fe fb W) (hg : W.grownBy W' (some me)) (hk : KI W' me ne' fe') : RuW w r a b1 rb me mb v ps ne' nb fe' fb W' := by
  have hc := CellsOn.of_map h.exc hg
  obtain ⟨ptrs, k1, k2, k3⟩ := h.ps_.ex
  refine ⟨h.ext.grown hg fun k e => by obtain rfl := Option.some.inj e; exact h.lo.2.1, h.bx.on hc, h.blk.on hc, ⟨⟨ptrs, k1, ?_, fun k hk => ⟨(k3 k hk).1.on hc, (k3 k hk).2⟩⟩⟩, hk, h.bar.on hg (fun e => h.lo.2.2.2 (Option.some.inj e).symm) hc, h.lo⟩
  refine ⟨k2.1, ?_⟩
  rcases k2.2 with h1 | ⟨g, cap, cur, hv, hg2, hh, rest⟩
  · exact .inl h1
  · exact .inr ⟨g, cap, cur, hv, hg2, hc.same g cur _ _ hh, rest⟩
theorem RuW.putB {nb' : Nat} {fb' : List UInt8 → Option (List Int)} (h : RuW w r a b1 rb me mb v ps ne nb fe fb W) (hg : W.grownBy W' (some mb)) (hk : KI W' mb nb' fb') : RuW w r a b1 rb me mb v ps ne nb' fe fb' W' := by
  have hc := CellsOn.of_map h.bar hg
  obtain ⟨ptrs, k1, k2, k3⟩ := h.ps_.ex
  refine ⟨h.ext.grown hg fun k e => by obtain rfl := Option.some.inj e; exact h.lo.2.2.1, h.bx.on hc, h.blk.on hc, ⟨⟨ptrs, k1, ?_, fun k hk => ⟨(k3 k hk).1.on hc, (k3 k hk).2⟩⟩⟩, h.exc.on hg (fun e => h.lo.2.2.2 (Option.some.inj e)) hc, hk, h.lo⟩
  refine ⟨k2.1, ?_⟩
  rcases k2.2 with h1 | ⟨g, cap, cur, hv, hg2, hh, rest⟩
  · exact .inl h1
  · exact .inr ⟨g, cap, cur, hv, hg2, hc.same g cur _ _ hh, rest⟩
end
end Go.Proofs.YtccdnieoaejgdaaGreatDoor
