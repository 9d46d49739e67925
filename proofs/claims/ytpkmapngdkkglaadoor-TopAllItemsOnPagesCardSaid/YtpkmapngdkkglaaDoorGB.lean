/-
  Walks: the reference's named and printsErr.
  Walk: the reference's CheckFount.
  Walks: slices.IndexFunc and ContainsFunc over ints; counts are checked.
  Walks: a fount and counts are checked (the program's check and CheckCase, the reference's Err and CheckCase).
  Walks: combined makes counts of two ones, sort by sort.
  Walks: sums of cases, what is left and what is lacking, metal.
  Walks: metal.
-/
import Derived.Test.YtpkmapngdkkglaaDoorGA
import Derived.Test.YtpkmapngdkkglaaDoorProg
import Derived.StillTailTactics
import Derived.Deep.AppendLies
import Derived.Deep.RegionHeld3
import Derived.Deep.RegionWith
namespace Go.Proofs.YtpkmapngdkkglaaDoor
open Go.RowKit

/-- The first of the first n sorts that bears a name. -/
def nameAt (ss : List TS) (s : ByteArray) : Nat → Option Nat
  | 0 => none
  | n + 1 => match nameAt ss s n with | some k => some k | none => if (ss.getD n TS.zero).name = s then some n else none
def optI : Option Nat → Int | some k => k | none => -1
theorem nameAt_none {ss : List TS} {s : ByteArray} : ∀ {n : Nat}, (∀ k, k < n → (ss.getD k TS.zero).name ≠ s) → nameAt ss s n = none
  | 0, _ => rfl
  | n + 1, h => by rw [nameAt, nameAt_none (fun k hk => h k (by omega))]; simp only; rw [if_neg (h n (by omega))]
theorem nameAt_some {ss : List TS} {s : ByteArray} {k : Nat} (hc : ∀ j, j < k → (ss.getD j TS.zero).name ≠ s) (hb : (ss.getD k TS.zero).name = s) : ∀ {n : Nat}, k < n → nameAt ss s n = some k
  | n + 1, hk => by
    rw [nameAt]
    by_cases h : k < n
    · rw [nameAt_some hc hb h]
    · obtain rfl : k = n := by omega
      rw [nameAt_none hc]; simp only; rw [if_pos hb]
theorem nameAt_has (ss : List TS) (s : ByteArray) : ∀ n, n ≤ ss.length → (nameAt ss s n).isSome = hasName ss n s
  | 0, _ => rfl
  | n + 1, h => by
    have ih := nameAt_has ss s n (by omega)
    unfold hasName at ih ⊢
    rw [take_getD ss n (by omega), List.any_append, ← ih]
    simp only [nameAt, List.any_cons, List.any_nil, Bool.or_false]
    cases nameAt ss s n with
    | some k => simp
    | none => by_cases e : (ss.getD n TS.zero).name = s <;> simp only [e, if_true, if_false] <;> simp
theorem str_eq_true (a : ByteArray) : (a.toList == a.toList) = true := by simp
theorem str_eq_false {a b : ByteArray} (h : a ≠ b) : (a.toList == b.toList) = false := by
  rw [beq_eq_false_iff_ne, Go.ByteArray.toList_eq, Go.ByteArray.toList_eq]; exact fun e => h (bytes_ext e)

def okB (c : Int) : Bool := decide (33 ≤ c) && decide (c ≤ 126)
def printTo (s : ByteArray) (n : Nat) : Prop := ∀ (j : Nat) (h : j < s.size), j < n → okB (s[j].toNat : Int) = true
theorem printable_of (s : ByteArray) (h : printTo s s.size) : printable s = true := by
  unfold printable
  rw [List.all_eq_true]
  intro b hb
  obtain ⟨j, hj, rfl⟩ := List.getElem_of_mem hb
  exact h j (by simpa using hj) (by simpa using hj)
theorem printable_bad (s : ByteArray) (k : Nat) (h : k < s.size) (hb : okB (s[k].toNat : Int) = false) : printable s = false := by
  unfold printable
  rw [List.all_eq_false]
  exact ⟨s[k], by have e : s[k] = s.data.toList[k]'(by simpa using h) := rfl; rw [e]; exact List.getElem_mem _, by rw [Bool.not_eq_true]; exact hb⟩
theorem hasText_none {ss : List TS} {s : ByteArray} : ∀ {n : Nat}, n ≤ ss.length → (∀ j, j < n → ¬ ((ss.getD j TS.zero).kind ≠ 3 ∧ (ss.getD j TS.zero).text = s)) → hasText ss n s = false
  | 0, _, _ => rfl
  | n + 1, hn, h => by
    have ih := hasText_none (n := n) (by omega) (fun j hj => h j (by omega))
    unfold hasText at ih ⊢
    rw [take_getD ss n (by omega), List.any_append, ih]
    have := h n (by omega)
    simp only [List.any_cons, List.any_nil, Bool.or_false, Bool.false_or]
    rw [Bool.and_eq_false_iff, decide_eq_false_iff_not, decide_eq_false_iff_not]
    by_cases hk : (ss.getD n TS.zero).kind = 3
    · left; simp only [ne_eq, hk, not_true, not_false_eq_true]
    · right; exact fun e => this ⟨hk, e⟩
theorem hasText_some {ss : List TS} {s : ByteArray} {k n : Nat} (hk : k < n) (hn : n ≤ ss.length) (h1 : (ss.getD k TS.zero).kind ≠ 3) (h2 : (ss.getD k TS.zero).text = s) : hasText ss n s = true := by
  unfold hasText
  rw [List.any_eq_true]
  refine ⟨ss.getD k TS.zero, ?_, by simp only [h2]; simp only [decide_eq_true h1, decide_true, Bool.and_self]⟩
  rw [List.getD_eq_getElem?_getD, List.getElem?_eq_getElem (by omega)]
  exact List.mem_take_iff_getElem.2 ⟨k, by omega, rfl⟩

theorem take_at (ss : List TS) (n k : Nat) (h : k < n) : (ss.take n).getD k TS.zero = ss.getD k TS.zero := by
  simp [List.getD_eq_getElem?_getD, h]
end Go.Proofs.YtpkmapngdkkglaaDoor
namespace Go.Proofs.YtpkmapngdkkglaaDoor
open Go.RowKit

theorem Same.quiet {P : Program} {f : FuncId} {args : Array Value} {w : World} {n : Nat} {v : Value} (h : Calls P f args (w.drewN n) (Same v (w.drewN n))) :
    Calls P f args (w.drewN n) fun e w'' => e = .returned v ∧ ∃ m, w'' = w.drewN m := h.mono fun _ _ ⟨he, hm⟩ => ⟨he, n, hm.symm⟩
theorem Same.quiet_add {P : Program} {f : FuncId} {args : Array Value} {w : World} {a n : Nat} {v : Value} (h : Calls P f args (w.drewN (a + n)) (Same v (w.drewN (a + n)))) :
    Calls P f args (w.drewN (a + n)) fun e w'' => e = .returned v ∧ ∃ m, w'' = w.drewN (a + m) := h.mono fun _ _ ⟨he, hm⟩ => ⟨he, n, hm.symm⟩

theorem RT.take {w : World} {A : Option Addr} {n k : Nat} {ss : List TS} (h : RT w A n ss) (hk : k ≤ n) : RT w A k (ss.take k) := by
  obtain ⟨h1, h2, h3⟩ := h
  refine ⟨by rw [List.length_take]; omega, by omega, fun hp => ?_⟩
  obtain ⟨b, off, ha, hb, hc⟩ := h3 (by omega)
  exact ⟨b, off, ha, hb, fun j hj => by rw [take_at ss k j hj]; exact hc j (by omega)⟩
theorem nameAt_take (ss : List TS) (s : ByteArray) (k : Nat) : ∀ n, n ≤ k → nameAt (ss.take k) s n = nameAt ss s n
  | 0, _ => rfl
  | n + 1, h => by rw [nameAt, nameAt, nameAt_take ss s k n (by omega), take_at ss k n (by omega)]
theorem optI_neg {o : Option Nat} (h : o.isSome = false) : optI o = -1 := by cases o <;> simp_all [optI]
theorem optI_pos {o : Option Nat} (h : o.isSome = true) : 0 ≤ optI o := by cases o <;> simp_all [optI]

end Go.Proofs.YtpkmapngdkkglaaDoor
namespace Go.Proofs.YtpkmapngdkkglaaDoor
open Go.RowKit

/-- The first of the first n numbers that meets p. -/
def idxOf (p : Int → Bool) (zs : List Int) : Nat → Option Nat
  | 0 => none
  | n + 1 => match idxOf p zs n with | some k => some k | none => if p (zs.getD n 0) = true then some n else none
theorem idxOf_none {p : Int → Bool} {zs : List Int} : ∀ {n : Nat}, (∀ k, k < n → p (zs.getD k 0) = false) → idxOf p zs n = none
  | 0, _ => rfl
  | n + 1, h => by rw [idxOf, idxOf_none (fun k hk => h k (by omega))]; simp only; rw [if_neg (by rw [h n (by omega)]; simp)]
theorem idxOf_some {p : Int → Bool} {zs : List Int} {k : Nat} (hc : ∀ j, j < k → p (zs.getD j 0) = false) (hb : p (zs.getD k 0) = true) : ∀ {n : Nat}, k < n → idxOf p zs n = some k
  | n + 1, hk => by
    rw [idxOf]
    by_cases h : k < n
    · rw [idxOf_some hc hb h]
    · obtain rfl : k = n := by omega
      rw [idxOf_none hc]; simp only; rw [if_pos hb]
theorem idxOf_isSome (p : Int → Bool) (zs : List Int) : ∀ n, (idxOf p zs n).isSome = true ↔ ∃ k, k < n ∧ p (zs.getD k 0) = true
  | 0 => by simp [idxOf]
  | n + 1 => by
    have ih := idxOf_isSome p zs n
    rw [idxOf]
    cases h : idxOf p zs n with
    | some k => rw [h] at ih; simp only [Option.isSome_some, true_iff] at ih ⊢; obtain ⟨k, hk, hp⟩ := ih; exact ⟨k, by omega, hp⟩
    | none =>
      rw [h] at ih; simp only [Option.isSome_none, Bool.false_eq_true, false_iff] at ih
      by_cases hp : p (zs.getD n 0) = true
      · simp only [if_pos hp, Option.isSome_some, true_iff]; exact ⟨n, by omega, hp⟩
      · simp only [if_neg hp, Option.isSome_none, Bool.false_eq_true, false_iff]
        rintro ⟨k, hk, hp'⟩
        by_cases hkn : k < n
        · exact ih ⟨k, hkn, hp'⟩
        · obtain rfl : k = n := by omega
          exact hp hp'

/-- What is asked of a function value that answers a bool. -/
def PredI (g : Nat) (lb : Array Value) (p : Int → Bool) (w : World) : Prop :=
  ∀ (W : World) (z : Int), Ext w W → Calls Tryd.prog g (#[.int .i64 z] ++ lb) W (Same (.bool (p z)) W)
theorem PredI.ext {g : Nat} {lb : Array Value} {p : Int → Bool} {w w' : World} (h : PredI g lb p w) (hx : Ext w w') : PredI g lb p w' := fun W z hW => h W z (hx.trans hW)

set_option maxHeartbeats 1000000 in
theorem indexFunc_any (g : Nat) (lb : Array Value) (eg : ∀ args w, (callFunc g args).run Tryd.prog w = .ok (.enter g args) w) (p : Int → Bool) (A : Option Addr) (n c : Nat) (zs : List Int) (w : World) (h : RI w A n zs) (hp : PredI g lb p w) :
    Calls Tryd.prog 53 #[.slice A n c, .func (.func g) #[] lb] w (Same (.int .i64 (optI (idxOf p zs n))) w) := by
  have hbig := h.big
  go_enter Tryd.func53, Tryd.ntmps53
  go_wp2
  go_loop [8] (fun i => ∃ k : Nat, k ≤ n ∧ i = .int .i64 k ∧ ∀ j, j < k → p (zs.getD j 0) = false) (fun i => n - (intOf i).toNat)
  case atStart => exact ⟨0, Nat.zero_le _, rfl, fun j hj => absurd hj (by omega)⟩
  case round =>
    obtain ⟨k, hk, rfl, hno⟩ := hrel
    have HNO := Lib.hid hno; clear hno
    by_cases hlt : k < n
    · obtain ⟨b, off, rfl, hbw, hcell⟩ := h.2.2 (by omega)
      have c1 := hcell k hlt
      have HK : Hid (p (zs.getD k 0) = false → ∀ j, j < k + 1 → p (zs.getD j 0) = false) := Lib.hid (fun he j hj => by
        by_cases hj' : j < k
        · exact HNO.out j hj'
        · obtain rfl : j = k := by omega
          exact he)
      have HV := Lib.hid (fun he => idxOf_some (n := n) HNO.out he hlt)
      have cP := hp w (zs.getD k 0) (Ext.refl _)
      generalize zs.getD k 0 = z at *
      clear hcell h hp
      cases hpz : p z
      · rw [hpz] at cP
        have HPZ := Lib.hid hpz; clear hpz
        have CP := Lib.hid cP; clear cP
        go_wp2_with (go_at_fn g; refine Calls.mono CP.out ?_; rintro e W' ⟨rfl, rfl⟩)
        go_round
        case rel => exact ⟨k + 1, by omega, by go_num, HK.out HPZ.out⟩
        case measure => simp [intOf]; omega
      · rw [hpz] at cP
        have HPZ := Lib.hid hpz; clear hpz
        have CP := Lib.hid cP; clear cP
        go_wp2_with (go_at_fn g; refine Calls.mono CP.out ?_; rintro e W' ⟨rfl, rfl⟩)
        go_ret
        exact ⟨by rw [HV.out HPZ.out]; rfl, rfl⟩
    · obtain rfl : k = n := by omega
      have HV := Lib.hid (idxOf_none HNO.out)
      clear h hp
      go_wp2
      go_ret
      exact ⟨by rw [HV.out]; rfl, rfl⟩

theorem optI_dec (o : Option Nat) : decide (0 ≤ optI o) = o.isSome := by
  cases o with
  | none => rfl
  | some k => simp [optI]
set_option maxHeartbeats 1000000 in
theorem containsFunc_any (g : Nat) (lb : Array Value) (eg : ∀ args w, (callFunc g args).run Tryd.prog w = .ok (.enter g args) w) (p : Int → Bool) (A : Option Addr) (n c : Nat) (zs : List Int) (w : World) (h : RI w A n zs) (hp : PredI g lb p w) :
    Calls Tryd.prog 45 #[.slice A n c, .func (.func g) #[] lb] w (Same (.bool (idxOf p zs n).isSome) w) := by
  have HD := Lib.hid (optI_dec (idxOf p zs n))
  have cI := indexFunc_any g lb eg p A n c zs w h hp
  clear eg
  generalize optI (idxOf p zs n) = o at *
  have CI := Lib.hid cI; clear cI h hp
  go_enter Tryd.func45, Tryd.ntmps45
  go_wp2_with (go_at_call 53; refine Calls.mono CI.out ?_; rintro e W' ⟨rfl, rfl⟩)
  go_ret
  exact ⟨by rw [← HD.out]; rfl, rfl⟩

/-- Counts out of their range. -/
def badCount (z : Int) : Bool := !(decide (0 ≤ z) && decide (z ≤ 1000000))
/-- The error of counts of a right fount; of a fount, then of counts. -/
def countsErr (f : FT) (zs : List Int) : Int := if zs.length ≠ f.sorts.length then 10 else if (idxOf badCount zs zs.length).isSome = true then 2 else 0
def caseErr (f : FT) (zs : List Int) : Int := if (chk f).2 ≠ 0 then (chk f).2 else countsErr f zs

end Go.Proofs.YtpkmapngdkkglaaDoor
namespace Go.Proofs.YtpkmapngdkkglaaDoor
open Go.RowKit

/-- A slice of ints, as a value and as numbers. -/
structure SI where
  A : Option Addr
  c : Nat
  zs : List Int
def SI.val (s : SI) : Value := .slice s.A s.zs.length s.c
def SI.none_ : SI := ⟨none, 0, []⟩
/-- A slice of slices of ints. -/
def RL (w : World) (A : Option Addr) (n : Nat) (rows : List SI) : Prop :=
  rows.length = n ∧ n ≤ 9223372036854775807 ∧ (0 < n → ∃ b off, A = some ⟨b, off, none⟩ ∧ b < w.heap.size ∧ ∀ k, k < n → w.cell? ⟨b, off + k, none⟩ = some (rows.getD k SI.none_).val) ∧
  ∀ k, k < n → RI w (rows.getD k SI.none_).A (rows.getD k SI.none_).zs.length (rows.getD k SI.none_).zs
theorem RL.ext {w w' : World} {A : Option Addr} {n : Nat} {rows : List SI} (h : RL w A n rows) (hx : Ext w w') : RL w' A n rows :=
  ⟨h.1, h.2.1, fun hn => let ⟨b, off, ha, hb, hc⟩ := h.2.2.1 hn; ⟨b, off, ha, Nat.lt_of_lt_of_le hb hx.size, fun k hk => (hx.cell (p := ⟨b, off + k, none⟩) hb).trans (hc k hk)⟩, fun k hk => (h.2.2.2 k hk).ext hx⟩
/-- The first error of several counts. -/
def rowsErr (f : FT) (rows : List SI) : Nat → Int
  | 0 => 0
  | n + 1 => if rowsErr f rows n ≠ 0 then rowsErr f rows n else countsErr f (rows.getD n SI.none_).zs
def checkErr (f : FT) (rows : List SI) : Int := if (chk f).2 ≠ 0 then (chk f).2 else rowsErr f rows rows.length
theorem rowsErr_first {f : FT} {rows : List SI} {k : Nat} (h0 : rowsErr f rows k = 0) (hb : countsErr f (rows.getD k SI.none_).zs ≠ 0) : ∀ {n : Nat}, k < n → rowsErr f rows n = countsErr f (rows.getD k SI.none_).zs
  | n + 1, hk => by
    rw [rowsErr]
    by_cases h : k < n
    · rw [rowsErr_first h0 hb h, if_pos hb]
    · obtain rfl : k = n := by omega
      rw [if_neg (by rw [h0]; simp)]

/-- One row, two rows, none. -/
theorem RL.none_ (w : World) : RL w none 0 [] := ⟨rfl, by omega, fun h => absurd h (by omega), fun k hk => absurd hk (by omega)⟩
theorem RL.one {w : World} {g : Nat} {T : TypeId} {r : SI} (hb : Blk w g T #[r.val]) (h : RI w r.A r.zs.length r.zs) : RL w (some ⟨g, 0, none⟩) 1 [r] := by
  refine ⟨rfl, by omega, fun _ => ⟨g, 0, rfl, hb.lt, fun k hk => ?_⟩, fun k hk => ?_⟩
  · obtain rfl : k = 0 := by omega
    exact hb.cell 0 _ rfl
  · obtain rfl : k = 0 := by omega
    exact h
theorem RL.two {w : World} {g : Nat} {T : TypeId} {r s : SI} (hb : Blk w g T #[r.val, s.val]) (h : RI w r.A r.zs.length r.zs) (h' : RI w s.A s.zs.length s.zs) : RL w (some ⟨g, 0, none⟩) 2 [r, s] := by
  refine ⟨rfl, by omega, fun _ => ⟨g, 0, rfl, hb.lt, fun k hk => ?_⟩, fun k hk => ?_⟩
  · rcases (show k = 0 ∨ k = 1 by omega) with rfl | rfl
    · exact hb.cell 0 _ rfl
    · exact hb.cell 1 _ rfl
  · rcases (show k = 0 ∨ k = 1 by omega) with rfl | rfl
    · exact h
    · exact h'
theorem checkErr_none (f : FT) : checkErr f [] = (chk f).2 := by
  unfold checkErr; by_cases h : (chk f).2 = 0 <;> simp [rowsErr, h]
theorem checkErr_one (f : FT) (r : SI) : checkErr f [r] = caseErr f r.zs := by unfold checkErr caseErr; simp [rowsErr]
/-- The errors of two counts. -/
def caseErr2 (f : FT) (xs ys : List Int) : Int := if caseErr f xs ≠ 0 then caseErr f xs else countsErr f ys
theorem checkErr_two (f : FT) (r s : SI) : checkErr f [r, s] = caseErr2 f r.zs s.zs := by
  unfold checkErr caseErr2 caseErr
  by_cases h : (chk f).2 = 0
  · simp [rowsErr, h]
  · simp [h]

end Go.Proofs.YtpkmapngdkkglaaDoor
namespace Go.Proofs.YtpkmapngdkkglaaDoor
open Go.RowKit

theorem intInfo : (Tryd.prog.info? 3).map (fun i => (i.zero, i.size, i.bytes)) = some (some (.int .i64 0), 1, 8) := by kernel_rfl
/-- v is a slice of the call's own (from block base on) that holds zs. -/
def Own (w : World) (base : Nat) (v : Value) (zs : List Int) : Prop := w.ownsRow base 3 1 v zs.length (zs.map (Value.int .i64))
theorem Own.nil (w : World) (base : Nat) : Own w base (.slice none 0 0) [] := World.ownsRow_nil _ _ _ _
theorem Own.form {w : World} {base : Nat} {v : Value} {zs : List Int} (h : Own w base v zs) (hz : zs.length ≤ 140737488351232) : ∃ A c, v = .slice A zs.length c ∧ zs.length ≤ c ∧ RI w A zs.length zs := by
  rcases Nat.eq_zero_or_pos zs.length with h0 | h0
  · obtain rfl := List.eq_nil_of_length_eq_zero h0
    rcases h.2 with ⟨rfl, _⟩ | ⟨g, cap, cur, rfl, _⟩
    · exact ⟨none, 0, rfl, by simp, RI.nil⟩
    · exact ⟨_, cap, rfl, by simp, rfl, by simp, fun h => absurd h (by simp)⟩
  · obtain ⟨g, cap, hv, hg, hlt⟩ := World.ownsRow.form h h0
    subst hv
    have hc := World.ownsRow.cells (g := g) h rfl
    rcases h.2 with ⟨hv, _⟩ | ⟨g', cap', cur, hv, _, _, hcap, _⟩
    · cases hv
    · cases hv
      refine ⟨_, cap, rfl, by omega, rfl, by omega, fun _ => ⟨g, 0, rfl, hlt, fun k hk => ?_⟩⟩
      have := hc k (.int .i64 (zs.getD k 0)) (by rw [List.getElem?_map, List.getElem?_eq_getElem hk, List.getD_eq_getElem?_getD, List.getElem?_eq_getElem hk]; rfl)
      rw [show (0 + k) = k by omega]
      unfold Addr.add at this
      by_cases hk0 : k = 0
      · subst hk0; simpa using this
      · rw [if_neg hk0] at this; simpa using this
theorem Own.base_le {w : World} {base : Nat} {v : Value} {zs : List Int} (h : Own w base v zs) : ∀ k, v.ownBlock = some k → base ≤ k := fun k hk => (World.ownsRow.lt h k hk).1
/-- The call hands back a new slice of ints. -/
def RetI (zs : List Int) (w : World) (e : Ending) (w' : World) : Prop := ∃ v, e = .returned v ∧ Own w' w.heap.size v zs ∧ Ext w w'

theorem take_snoc (zs : List Int) (k : Nat) (h : k < zs.length) : zs.take (k + 1) = zs.take k ++ [zs.getD k 0] := by
  rw [List.take_succ_eq_append_getElem h, List.getD_eq_getElem?_getD, List.getElem?_eq_getElem h]; rfl
/-- One number is appended to a slice of the call's own. -/
theorem run_push {w : World} {base : Nat} {v : Value} {zs : List Int} {g0 : Nat} {z : Int} (hown : Own w base v zs) (hb : w.cell? ⟨g0, 0, none⟩ = some (.int .i64 z)) (hlen : zs.length ≤ 1000000) (hbase : base ≤ w.heap.size) (ty : TypeId) :
    ∃ v' w', (Builtin.append_ #[23, 23] ty #[v, .slice (some ⟨g0, 0, none⟩) 1 1]).run Tryd.prog w = .ok v' w' ∧ Own w' base v' (zs ++ [z]) ∧ w.grownBy w' v.ownBlock := by
  obtain ⟨i0, hi, hz0, hz1, hz2⟩ := info_parts intInfo
  obtain ⟨g, cap, w', hr, h2, h3, _⟩ := run_append_lies (P := Tryd.prog) w 23 ty base 3 i0 (.int .i64 0) 1 8 Tryd.underlying23 hi hz0 hz1 hz2 rfl (by decide) v zs.length _ hown ⟨g0, 0, none⟩ 1 1 [.int .i64 z] rfl
    (fun j u hj => by match j, hj with | 0, hj => simp at hj; subst hj; simpa [Addr.add] using hb) (fun u hu => by simp at hu; subst hu; rfl) (by decide) (by unfold maxLen; omega) (by omega) hbase _ rfl
  exact ⟨_, w', hr, by unfold Own; simpa using h2, h3⟩
theorem wp_push {w : World} {o : Oper} {a : Act} {K : Act → World → Prop} {Q : Exit → Act → World → Prop} (s x : Operand) (ho : o.op = .call { callee := .builtin .append, args := #[s, x], argTypes := #[23, 23] })
    (base : Nat) (v : Value) (zs : List Int) (hs : a.eval s = v) (hown : Own w base v zs) (g0 : Nat) (z : Int) (hx : a.eval x = .slice (some ⟨g0, 0, none⟩) 1 1) (hb : w.cell? ⟨g0, 0, none⟩ = some (.int .i64 z)) (hlen : zs.length ≤ 1000000) (hbase : base ≤ w.heap.size)
    (h : ∀ v' w', Own w' base v' (zs ++ [z]) → w.grownBy w' v.ownBlock → K (a.put o.dst v') w') : o.wp Tryd.prog a w K Q := by
  obtain ⟨v', w', hr, h2, h3⟩ := run_push hown hb hlen hbase o.type
  unfold Oper.wp execOp
  simp only [ho, resolve, invoke, builtin, Sem.run_bind, Sem.run_pure, Result.andThen_ok, List.map_toArray, List.map_cons, List.map_nil, hs, hx, hr]
  exact h v' w' h2 h3
theorem step_push {w : World} {ops : Array Oper} {o : Oper} {a : Act} {K : Act → World → Prop} {Q : Exit → Act → World → Prop} {E : Prop} (hgd : o.guard = none) (s x : Operand) (ho : o.op = .call { callee := .builtin .append, args := #[s, x], argTypes := #[23, 23] })
    (base : Nat) (v : Value) (zs : List Int) (hs : a.eval s = v) (hown : Own w base v zs) (g0 : Nat) (z : Int) (hx : a.eval x = .slice (some ⟨g0, 0, none⟩) 1 1) (hb : w.cell? ⟨g0, 0, none⟩ = some (.int .i64 z)) (hlen : zs.length ≤ 1000000) (hbase : base ≤ w.heap.size)
    (h : ∀ v' w', Own w' base v' (zs ++ [z]) → w.grownBy w' v.ownBlock → K (a.put o.dst v') w') : if Region.wanted o (yielded ops a.tmps) = true then Oper.wp Tryd.prog o a w K Q else E := by
  rw [if_pos (by simp [Region.wanted, hgd])]
  exact wp_push s x ho base v zs hs hown g0 z hx hb hlen hbase h
theorem list_push {w : World} {ops : Array Oper} {rest : List Oper} {o : Oper} {a : Act} {Q : Exit → Act → World → Prop} (hgd : o.guard = none) (s x : Operand) (ho : o.op = .call { callee := .builtin .append, args := #[s, x], argTypes := #[23, 23] })
    (base : Nat) (v : Value) (zs : List Int) (hs : a.eval s = v) (hown : Own w base v zs) (g0 : Nat) (z : Int) (hx : a.eval x = .slice (some ⟨g0, 0, none⟩) 1 1) (hb : w.cell? ⟨g0, 0, none⟩ = some (.int .i64 z)) (hlen : zs.length ≤ 1000000) (hbase : base ≤ w.heap.size)
    (h : ∀ v' w', Own w' base v' (zs ++ [z]) → w.grownBy w' v.ownBlock → wpList Tryd.prog ops Q rest (a.put o.dst v') w') : wpList Tryd.prog ops Q (o :: rest) a w :=
  wpList_plain hgd fun _ hK => wp_push s x ho base v zs hs hown g0 z hx hb hlen hbase fun v' w' h2 h3 => hK _ _ (h v' w' h2 h3)
theorem Own.ext {w w' : World} {base : Nat} {v : Value} {zs : List Int} (h : Own w base v zs) (hx : Ext w w') : Own w' base v zs := by
  refine World.ownsRow.kept (row := none) h ⟨hx.os, hx.tape, hx.output, hx.size, fun k hk _ => hx.block hk⟩ ?_
  cases hv : v.ownBlock with
  | none => exact .inl rfl
  | some g => exact .inr (by simp)
theorem Own.alloc {w : World} {base : Nat} {v : Value} {zs : List Int} (h : Own w base v zs) (o : Obj) : Own (w.alloc o) base v zs := World.ownsRow.alloc h o
/-- A cell of what lay ahead is as it was behind the append. -/
theorem own_cell {w0 W w' : World} {base : Nat} {v u : Value} {zs : List Int} {b o : Nat} (hg : W.grownBy w' v.ownBlock) (hown : Own W base v zs) (hb : b < base) (hx : Ext w0 W) (hb0 : b < w0.heap.size) (hc : w0.cell? ⟨b, o, none⟩ = some u) : w'.cell? ⟨b, o, none⟩ = some u := by
  rw [World.cell?_of_block (w := W) (hg.block b (Nat.lt_of_lt_of_le hb0 hx.size) (fun e => by have := hown.base_le b e.symm; omega)), hx.cell (p := ⟨b, o, none⟩) hb0, hc]
theorem own_ext {w0 W w' : World} {v : Value} {zs : List Int} (hg : W.grownBy w' v.ownBlock) (hown : Own W w0.heap.size v zs) (hx : Ext w0 W) : Ext w0 w' := hx.grown hg hown.base_le
theorem still_tail {P : Program} {id : Nat} {Q : Exit → Act → World → Prop} {a : Act} {w : World} {l : List Oper} (n : Nat) (hm : P.follows .mixedOrders = true) (hB : Region.lexTailB .any l.toArray n = true)
    (h : wpStill P l.toArray w.drew (fun a' => wpList P l.toArray Q (l.drop n) a' w.drew) (l.take n) a) : (Code.region id l.toArray true).wp P Q a w := wp_region_still_tail n hm hB h
theorem Same.still {P : Program} {f : FuncId} {args : Array Value} {w : World} {v : Value} (h : Calls P f args w (Same v w)) : Calls P f args w fun e w' => e = .returned v ∧ w' = w := h.mono fun _ _ ⟨he, hm⟩ => ⟨he, hm.symm⟩
/-! The four ways to make one count of two. -/
end Go.Proofs.YtpkmapngdkkglaaDoor
namespace Go.Proofs.YtpkmapngdkkglaaDoor
open Go.RowKit

theorem chk_zero {f : FT} (h : (chk f).2 = 0) : (1 ≤ f.body ∧ f.body ≤ 144) ∧ 1 ≤ f.sorts.length ∧ f.sorts.length ≤ 120 ∧ cleanTo f.sorts f.sorts.length := by
  unfold chk at h
  by_cases h1 : nameB f.name = false
  · rw [if_pos h1] at h; exact absurd h (by decide)
  rw [if_neg h1] at h
  by_cases h2 : ¬ (1 ≤ f.body ∧ f.body ≤ 144)
  · rw [if_pos h2] at h; exact absurd h (by decide)
  rw [if_neg h2] at h
  by_cases h3 : f.sorts.length = 0
  · rw [if_pos h3] at h; exact absurd h (by decide)
  rw [if_neg h3] at h
  by_cases h4 : 120 < f.sorts.length
  · rw [if_pos h4] at h; exact absurd h (by decide)
  rw [if_neg h4] at h
  refine ⟨by simpa using h2, by omega, by omega, ?_⟩
  have key : ∀ n, (match firstBad f.sorts n with | some k => ((k : Int), sortErr f.sorts k (f.sorts.getD k TS.zero)) | none => (0, 0)).2 = 0 → cleanTo f.sorts n := by
    intro n
    induction n with
    | zero => intro _ k hk; omega
    | succ n ih =>
      intro hh
      rw [firstBad] at hh
      cases hb : firstBad f.sorts n with
      | some k => rw [hb] at hh ih; exact absurd hh (by
          simp only at hh ih ⊢
          intro hz
          have hc := ih hz
          rw [firstBad_none hc] at hb; cases hb)
      | none =>
        rw [hb] at hh ih
        have hc := ih rfl
        simp only at hh
        by_cases hs : sortErr f.sorts n (f.sorts.getD n TS.zero) = 0
        · exact cleanTo_succ hc hs
        · rw [if_neg hs] at hh; exact absurd hh hs
  exact key _ h
theorem sort_zero {ss : List TS} {n : Nat} {x : TS} (h : sortErr ss n x = 0) : nameB x.name = true ∧ hasName ss n x.name = false ∧ (1 ≤ x.kind ∧ x.kind ≤ 3) ∧ (1 ≤ x.width ∧ x.width ≤ 100000) ∧ textErr ss n x.kind x.text = 0 := by
  unfold sortErr at h
  by_cases h1 : nameB x.name = false
  · rw [if_pos h1] at h; exact absurd h (by decide)
  rw [if_neg h1] at h
  by_cases h2 : hasName ss n x.name = true
  · rw [if_pos h2] at h; exact absurd h (by decide)
  rw [if_neg h2] at h
  by_cases h3 : ¬ (1 ≤ x.kind ∧ x.kind ≤ 3)
  · rw [if_pos h3] at h; exact absurd h (by decide)
  rw [if_neg h3] at h
  by_cases h4 : ¬ (1 ≤ x.width ∧ x.width ≤ 100000)
  · rw [if_pos h4] at h; exact absurd h (by decide)
  rw [if_neg h4] at h
  exact ⟨by simpa using h1, by simpa using h2, by simpa using h3, by simpa using h4, h⟩
theorem badCount_false {z : Int} : badCount z = false ↔ 0 ≤ z ∧ z ≤ 1000000 := by
  unfold badCount; rw [Bool.not_eq_false', Bool.and_eq_true, decide_eq_true_eq, decide_eq_true_eq]
theorem counts_zero {f : FT} {zs : List Int} (h : countsErr f zs = 0) : zs.length = f.sorts.length ∧ ∀ k, k < zs.length → 0 ≤ zs.getD k 0 ∧ zs.getD k 0 ≤ 1000000 := by
  unfold countsErr at h
  by_cases h1 : zs.length ≠ f.sorts.length
  · rw [if_pos h1] at h; exact absurd h (by decide)
  rw [if_neg h1] at h
  by_cases h2 : (idxOf badCount zs zs.length).isSome = true
  · rw [if_pos h2] at h; exact absurd h (by decide)
  refine ⟨by omega, fun k hk => badCount_false.1 ?_⟩
  rw [Bool.eq_false_iff]
  intro hb
  exact h2 ((idxOf_isSome _ _ _).2 ⟨k, hk, hb⟩)
theorem counts_of {f : FT} {zs : List Int} (hl : zs.length = f.sorts.length) (h : ∀ k, k < zs.length → 0 ≤ zs.getD k 0 ∧ zs.getD k 0 ≤ 1000000) : countsErr f zs = 0 := by
  unfold countsErr
  rw [if_neg (by omega), if_neg]
  intro hs
  obtain ⟨k, hk, hb⟩ := (idxOf_isSome _ _ _).1 hs
  rw [badCount_false.2 (h k hk)] at hb; cases hb
theorem case_zero {f : FT} {zs : List Int} (h : caseErr f zs = 0) : (chk f).2 = 0 ∧ countsErr f zs = 0 := by
  unfold caseErr at h
  by_cases h1 : (chk f).2 ≠ 0
  · rw [if_pos h1] at h; exact absurd h h1
  · rw [if_neg h1] at h; exact ⟨by simpa using h1, h⟩
theorem case_of {f : FT} {zs : List Int} (h : (chk f).2 = 0) (h' : countsErr f zs = 0) : caseErr f zs = 0 := by unfold caseErr; rw [if_neg (by rw [h]; simp), h']
theorem case2_zero {f : FT} {xs ys : List Int} (h : caseErr2 f xs ys = 0) : caseErr f xs = 0 ∧ countsErr f ys = 0 := by
  unfold caseErr2 at h
  by_cases h1 : caseErr f xs ≠ 0
  · rw [if_pos h1] at h; exact absurd h h1
  · rw [if_neg h1] at h; exact ⟨by simpa using h1, h⟩
theorem case2_of {f : FT} {xs ys : List Int} (h : caseErr f xs = 0) (h' : countsErr f ys = 0) : caseErr2 f xs ys = 0 := by unfold caseErr2; rw [if_neg (by rw [h]; simp), h']

/-- Two lists, number by number. -/
def zipK (o : Int → Int → Int) (xs ys : List Int) : List Int := (List.range xs.length).map fun k => o (xs.getD k 0) (ys.getD k 0)
theorem zipK_len (o : Int → Int → Int) (xs ys : List Int) : (zipK o xs ys).length = xs.length := by simp [zipK]
theorem zipK_at (o : Int → Int → Int) (xs ys : List Int) (k : Nat) (h : k < xs.length) : (zipK o xs ys).getD k 0 = o (xs.getD k 0) (ys.getD k 0) := by
  unfold zipK
  rw [List.getD_eq_getElem?_getD, List.getElem?_map, List.getElem?_range h]; rfl
def lacksI (x y : Int) : Int := max 0 (y - x)
def mostI (x y : Int) : Int := max x y
/-- A slice of the call's own, read and owned. -/
structure SL (w : World) (base : Nat) (A : Option Addr) (c : Nat) (zs : List Int) : Prop where
  own : Own w base (.slice A zs.length c) zs
  ri : RI w A zs.length zs
  cap : zs.length ≤ c
theorem SL.nil (w : World) (base : Nat) : SL w base none 0 [] := ⟨Own.nil _ _, RI.nil, Nat.le_refl _⟩
theorem SL.of_own {w : World} {base c : Nat} {A : Option Addr} {zs : List Int} (h : Own w base (.slice A zs.length c) zs) (hz : zs.length ≤ 1000000) : SL w base A c zs := by
  obtain ⟨A', c', he, hc, hr⟩ := h.form (by omega)
  obtain ⟨e1, _, e3⟩ := Value.slice.inj he
  subst e1 e3
  exact ⟨h, hr, hc⟩
theorem SL.ext {w w' : World} {base c : Nat} {A : Option Addr} {zs : List Int} (h : SL w base A c zs) (hx : Ext w w') : SL w' base A c zs := ⟨h.own.ext hx, h.ri.ext hx, h.cap⟩
theorem SL.mono {w : World} {base base' c : Nat} {A : Option Addr} {zs : List Int} (h : SL w base A c zs) (hb : base' ≤ base) : SL w base' A c zs := by
  refine ⟨⟨h.own.1, ?_⟩, h.ri, h.cap⟩
  rcases h.own.2 with h' | ⟨g, cap, cur, hv, hg, r⟩
  · exact .inl h'
  · exact .inr ⟨g, cap, cur, hv, by omega, r⟩
/-- The call hands back a new slice; with an error; with a number and an error. -/
def RetS (zs : List Int) (w : World) (e : Ending) (w' : World) : Prop := ∃ A c, e = .returned (.slice A zs.length c) ∧ SL w' w.heap.size A c zs ∧ Ext w w'
def RetSE (zs : List Int) (z : Int) (w : World) (e : Ending) (w' : World) : Prop := ∃ A c, e = .returned (.tuple #[.slice A zs.length c, .int .i64 z]) ∧ SL w' w.heap.size A c zs ∧ Ext w w'
def RetSNE (zs : List Int) (n z : Int) (w : World) (e : Ending) (w' : World) : Prop := ∃ A c, e = .returned (.tuple #[.slice A zs.length c, .int .i64 n, .int .i64 z]) ∧ SL w' w.heap.size A c zs ∧ Ext w w'
theorem RetI.s {zs : List Int} {w : World} (hz : zs.length ≤ 140737488351232) : ∀ (e : Ending) (w' : World), RetI zs w e w' → RetS zs w e w' := fun e w' ⟨v, he, ho, hx⟩ => by
  obtain ⟨A, c, rfl, hc, hr⟩ := ho.form hz
  exact ⟨A, c, he, ⟨ho, hr, hc⟩, hx⟩

def maxTo (zs : List Int) : Nat → Int
  | 0 => 0
  | n + 1 => if n = 0 then zs.getD 0 0 else max (maxTo zs n) (zs.getD n 0)
theorem maxTo_gt (zs : List Int) (M : Int) : ∀ n, 1 ≤ n → (M < maxTo zs n ↔ ∃ k, k < n ∧ M < zs.getD k 0)
  | 0, h => by omega
  | n + 1, _ => by
    unfold maxTo
    by_cases h0 : n = 0
    · subst h0
      rw [if_pos rfl]
      refine ⟨fun h => ⟨0, by omega, h⟩, fun ⟨k, hk, h⟩ => ?_⟩
      obtain rfl : k = 0 := by omega
      exact h
    · rw [if_neg h0]
      have ih := maxTo_gt zs M n (by omega)
      constructor
      · intro h
        by_cases h1 : M < maxTo zs n
        · obtain ⟨k, hk, hm⟩ := ih.1 h1; exact ⟨k, by omega, hm⟩
        · exact ⟨n, by omega, by omega⟩
      · rintro ⟨k, hk, hm⟩
        by_cases hkn : k < n
        · have := ih.2 ⟨k, hkn, hm⟩; omega
        · obtain rfl : k = n := by omega
          omega
/-- What Joined returns. -/
def joinR (f : FT) (xs ys : List Int) : List Int × Int :=
  if caseErr2 f xs ys ≠ 0 then ([], caseErr2 f xs ys) else if 1000000 < maxTo (zipK (· + ·) xs ys) (zipK (· + ·) xs ys).length then ([], 8) else (zipK (· + ·) xs ys, 0)
def neg (z : Int) : Bool := decide (z < 0)
/-- What Taken, and what Lacking, returns. -/
def takeR (f : FT) (xs ys : List Int) : List Int × Int × Int :=
  if caseErr2 f xs ys ≠ 0 then ([], 0, caseErr2 f xs ys) else
  match idxOf neg (zipK (· - ·) xs ys) (zipK (· - ·) xs ys).length with | some k => ([], (k : Int), 20) | none => (zipK (· - ·) xs ys, 0, 0)
def lackR (f : FT) (xs ys : List Int) : List Int × Int := if caseErr2 f xs ys ≠ 0 then ([], caseErr2 f xs ys) else (zipK lacksI xs ys, 0)

end Go.Proofs.YtpkmapngdkkglaaDoor
namespace Go.Proofs.YtpkmapngdkkglaaDoor
open Go.RowKit

def sumTo (g : Nat → Int) : Nat → Int | 0 => 0 | n + 1 => sumTo g n + g n
theorem sumTo_bd (g : Nat → Int) (M : Int) (n : Nat) (h : ∀ k, k < n → 0 ≤ g k ∧ g k ≤ M) : 0 ≤ sumTo g n ∧ sumTo g n ≤ n * M := by
  induction n with
  | zero => simp [sumTo]
  | succ n ih =>
    have h1 := ih (fun k hk => h k (by omega))
    have h2 := h n (by omega)
    rw [sumTo]
    have : ((n + 1 : Nat) : Int) * M = n * M + M := by rw [Int.natCast_add, Int.add_mul]; simp
    omega
def metalTo (ss : List TS) (cs : List Int) (body : Int) (n : Nat) : Int := sumTo (fun k => cs.getD k 0 * (ss.getD k TS.zero).width * body) n
/-- Counts, widths and the body lie in their ranges. -/
structure MetalOk (f : FT) (cs : List Int) : Prop where
  len : cs.length = f.sorts.length
  few : f.sorts.length ≤ 120
  body : 1 ≤ f.body ∧ f.body ≤ 144
  cnt : ∀ k, k < f.sorts.length → 0 ≤ cs.getD k 0 ∧ cs.getD k 0 ≤ 1000000
  wid : ∀ k, k < f.sorts.length → 1 ≤ (f.sorts.getD k TS.zero).width ∧ (f.sorts.getD k TS.zero).width ≤ 100000
theorem MetalOk.of {f : FT} {cs : List Int} (h1 : (chk f).2 = 0) (h2 : countsErr f cs = 0) : MetalOk f cs := by
  obtain ⟨a, b, c, d⟩ := chk_zero h1
  obtain ⟨e, g⟩ := counts_zero h2
  exact ⟨e, c, a, fun k hk => g k (by omega), fun k hk => (sort_zero (d k hk)).2.2.2.1⟩
theorem MetalOk.term {f : FT} {cs : List Int} (h : MetalOk f cs) (k : Nat) (hk : k < f.sorts.length) : 0 ≤ cs.getD k 0 * (f.sorts.getD k TS.zero).width * f.body ∧ cs.getD k 0 * (f.sorts.getD k TS.zero).width * f.body ≤ 14400000000000 := by
  have w1 := h.wid k hk
  have p1 := mul_bd (h.cnt k hk) ⟨Int.le_trans (by omega) w1.1, w1.2⟩
  exact mul_bd p1 ⟨Int.le_trans (by omega) h.body.1, h.body.2⟩
theorem MetalOk.bd {f : FT} {cs : List Int} (h : MetalOk f cs) (n : Nat) (hn : n ≤ f.sorts.length) : 0 ≤ metalTo f.sorts cs f.body n ∧ metalTo f.sorts cs f.body n ≤ 1728000000000000 := by
  have := sumTo_bd (fun k => cs.getD k 0 * (f.sorts.getD k TS.zero).width * f.body) 14400000000000 n (fun k hk => h.term k (by omega))
  have hf := h.few
  unfold metalTo
  omega

def metalR (f : FT) (cs : List Int) : Int := metalTo f.sorts cs f.body f.sorts.length
def metalOfV (f : FT) (cs : List Int) : Value := .tuple #[.int .i64 (if caseErr f cs ≠ 0 then 0 else metalR f cs), .int .i64 (caseErr f cs)]
/-- What Cast returns. -/
def castR (f : FT) (stock : Int) (bill : List Int) : Int × Int × Int :=
  if (chk f).2 ≠ 0 then (0, 0, (chk f).2) else if ¬ (0 ≤ stock ∧ stock ≤ 1000000000000000000) then (0, 0, 2) else if countsErr f bill ≠ 0 then (0, 0, countsErr f bill)
  else if metalR f bill = 0 then (0, 0, 11) else (stock / metalR f bill, stock % metalR f bill, 0)
def castV (f : FT) (stock : Int) (bill : List Int) : Value := .tuple #[.int .i64 (castR f stock bill).1, .int .i64 (castR f stock bill).2.1, .int .i64 (castR f stock bill).2.2]
end Go.Proofs.YtpkmapngdkkglaaDoor
