/-
  Walks: chapter 5: an item of a galley is checked (the checker's inside, text, item).
  Walk: chapter 5: the checker's item.
  Plain law: least costs of pages one behind the other: labels, the places before, and breaks.
  Plain law: cores from both ends; what pages cost is small; the breaks' pages one by one.
  Walk: chapter 5: CheckGalley, galleyErr.
-/
import Derived.Test.YtfbdklminljecaaGreatDoorGC
import Derived.Test.YtfbdklminljecaaGreatDoorGF
import Derived.Test.YtfbdklminljecaaGreatDoorGA
namespace Go.Proofs.YtfbdklminljecaaGreatDoor
open Go.RowKit

def RetQB (z : Bool) (w : World) (e : Ending) (w' : World) : Prop := e = .returned (.bool z) ∧ ∃ q, w' = w.drewN q
/-- The call returns z; block b alone may have turned; where z is 0 it holds cs. -/
def ItemP (b : Nat) (t : TypeId) (z : Int) (cs : Array Value) (w : World) (e : Ending) (w' : World) : Prop := e = .returned (.int .i64 z) ∧ But [b] w w' ∧ (z = 0 → Blk w' b t cs)
theorem But.drewN {L : List Nat} {a b : World} (h : But L a b) (n : Nat) : But L a (b.drewN n) := ⟨h.os, h.tape, h.output, h.size, h.block⟩
theorem But.alloc {L : List Nat} {a b : World} (h : But L a b) (o : Obj) : But L a (b.alloc o) := h.trans (But.of_ext ((Ext.refl b).alloc o) L)
theorem But.set {L : List Nat} {a b : World} (h : But L a b) {p : Addr} (hp : p.block ∈ L ∨ a.heap.size ≤ p.block) (v : Value) : But L a (b.setCell p v) :=
  ⟨h.os, h.tape, h.output, Nat.le_trans h.size (by simp [World.setCell]), fun k hk hn => by
    rw [Below.heap_setCell b p v k (fun e => by
      rcases hp with hp | hp
      · exact hn (e ▸ hp)
      · omega)]
    exact h.block k hk hn⟩
theorem Blk.eq {w : World} {g : Nat} {t : TypeId} {cs cs' : Array Value} (h : Blk w g t cs) (e : cs = cs') : Blk w g t cs' := e ▸ h
theorem But.set1 {a b : World} {g o : Nat} (h : But [g] a b) (v : Value) : But [g] a (b.setCell ⟨g, o, none⟩ v) := h.set (.inl (List.mem_singleton.2 rfl)) v
theorem But.refl (L : List Nat) (a : World) : But L a a := But.of_ext (Ext.refl a) L
section
variable (b : Nat) (lk lh ln l o c : Int) (n : Nat)
theorem inside_any (W : World) (hB : Blk W b 146 #[.int .i64 lk, .int .i64 lh, .int .i64 ln, .int .i64 l, .int .i64 o, .int .i64 c, .int .i64 (n : Int)]) : Calls Tryz.prog 85 #[.pointer (some ⟨b, 0, none⟩)] W (RetQB (decide (l < o)) W) := by
  have c3 := hB.cell 3 _ rfl
  have c4 := hB.cell 4 _ rfl
  clear hB
  go_enter Tryz.func85, Tryz.ntmps85
  go_wp2
  go_quiet (fail)
  go_wp2
  go_ret
  exact ⟨rfl, _, rfl⟩
def inErr (l o : Int) (x : IT) : Int := if x.many < 1 ∨ x.line ≠ (if l < o then l + 1 else 1) ∨ x.many ≠ (if l < o then o else x.many) then 9 else 0
set_option maxHeartbeats 4000000 in
theorem pText_any (x : IT) (W : World) (hB : Blk W b 146 #[.int .i64 lk, .int .i64 lh, .int .i64 ln, .int .i64 l, .int .i64 o, .int .i64 c, .int .i64 (n : Int)]) (hl : 0 ≤ l ∧ l ≤ o ∧ o ≤ 9223372036854775807) :
    Calls Tryz.prog 96 #[.pointer (some ⟨b, 0, none⟩), x.val] W (ItemP b 146 (inErr l o x) #[.int .i64 x.kind, .int .i64 x.height, .int .i64 x.note, .int .i64 x.line, .int .i64 x.many, .int .i64 c, .int .i64 (n : Int)] W) := by
  obtain ⟨k, h, nt, li, m⟩ := x
  have HE : Hid (inErr l o ⟨k, h, nt, li, m⟩ = if m < 1 ∨ li ≠ (if l < o then l + 1 else 1) ∨ m ≠ (if l < o then o else m) then 9 else 0) := Lib.hid rfl
  generalize inErr l o ⟨k, h, nt, li, m⟩ = z at *
  simp only [IT.val]
  obtain ⟨hl1, hl9, hl3⟩ := hl
  have c0 := hB.cell 0 _ rfl
  have c1 := hB.cell 1 _ rfl
  have c2 := hB.cell 2 _ rfl
  have c3 := hB.cell 3 _ rfl
  have c4 := hB.cell 4 _ rfl
  have c5 := hB.cell 5 _ rfl
  have c6 := hB.cell 6 _ rfl
  have f0 := hB.frozen 0
  have f1 := hB.frozen 1
  have f2 := hB.frozen 2
  have f3 := hB.frozen 3
  have f4 := hB.frozen 4
  have f5 := hB.frozen 5
  have hlt := hB.lt
  have hbs : b ≠ W.heap.size := by omega
  have hbs2 : W.heap.size ≠ b := by omega
  have HB := Lib.hid hB
  clear hB
  by_cases hio : l < o
  case pos =>
    have hl2 : l ≤ 9223372036854775806 := by omega
    clear hl9 hl3
    have hd : decide (l < o) = true := by simpa using hio
    by_cases h1 : m < 1
    · have HE1 : Hid (z = 9) := Lib.hid (by rw [HE.out, if_pos (.inl h1)])
      go_enter Tryz.func96, Tryz.ntmps96
      go_wp2
      go_quiet (fail)
      go_wp2_with (first | (go_at_call 85; refine Calls.mono (inside_any b lk lh ln l o c n _ ?_) ?_; (exact (HB.out.alloc _).drewN _); (rw [hd]); rintro e w1 ⟨rfl, q, rfl⟩))
      go_quiet (fail)
      go_wp2
      go_ret
      exact ⟨by rw [HE1.out]; rfl, But.of_ext (by repeat (first | exact Ext.refl _ | assumption | refine Ext.alloc ?_ _ | refine Ext.drew ?_ | refine Ext.drewN ?_ _ | (refine Ext.setCell ?_ (by simp <;> omega) _) | refine Ext.trans ?_ (by assumption))) _, fun h => by rw [HE1.out] at h; exact absurd h (by decide)⟩
    by_cases h2 : li = l + 1
    case neg =>
      have HE1 : Hid (z = 9) := Lib.hid (by rw [HE.out, if_pos (.inr (.inl (by rw [if_pos hio]; exact h2)))])
      have e2 : (li != l + 1) = true := by simpa using h2
      clear h2 hio
      go_enter Tryz.func96, Tryz.ntmps96
      go_wp2
      go_quiet (fail)
      go_wp2_with (first | (go_at_call 85; refine Calls.mono (inside_any b lk lh ln l o c n _ ?_) ?_; (exact (HB.out.alloc _).drewN _); (rw [hd]); rintro e w1 ⟨rfl, q, rfl⟩))
      go_quiet (fail)
      go_wp2
      go_ret
      exact ⟨by rw [HE1.out]; rfl, But.of_ext (by repeat (first | exact Ext.refl _ | assumption | refine Ext.alloc ?_ _ | refine Ext.drew ?_ | refine Ext.drewN ?_ _ | (refine Ext.setCell ?_ (by simp <;> omega) _) | refine Ext.trans ?_ (by assumption))) _, fun h => by rw [HE1.out] at h; exact absurd h (by decide)⟩
    by_cases h3 : m = o
    case neg =>
      have HE1 : Hid (z = 9) := Lib.hid (by rw [HE.out, if_pos (.inr (.inr (by rw [if_pos hio]; exact h3)))])
      have e2 : (li != l + 1) = false := by simpa using h2
      have e3 : (m != o) = true := by simpa using h3
      clear h2 h3 hio
      go_enter Tryz.func96, Tryz.ntmps96
      go_wp2
      go_quiet (fail)
      go_wp2_with (first | (go_at_call 85; refine Calls.mono (inside_any b lk lh ln l o c n _ ?_) ?_; (exact (HB.out.alloc _).drewN _); (rw [hd]); rintro e w1 ⟨rfl, q, rfl⟩))
      go_quiet (fail)
      go_wp2
      go_ret
      exact ⟨by rw [HE1.out]; rfl, But.of_ext (by repeat (first | exact Ext.refl _ | assumption | refine Ext.alloc ?_ _ | refine Ext.drew ?_ | refine Ext.drewN ?_ _ | (refine Ext.setCell ?_ (by simp <;> omega) _) | refine Ext.trans ?_ (by assumption))) _, fun h => by rw [HE1.out] at h; exact absurd h (by decide)⟩
    have HE1 : Hid (z = 0) := Lib.hid (by rw [HE.out, if_neg (by rw [if_pos hio, if_pos hio]; omega)])
    have e2 : (li != l + 1) = false := by simpa using h2
    have e3 : (m != o) = false := by simpa using h3
    clear h2 h3 hio
    go_enter Tryz.func96, Tryz.ntmps96
    go_wp2
    go_quiet (fail)
    go_wp2_with (first | (go_at_call 85; refine Calls.mono (inside_any b lk lh ln l o c n _ ?_) ?_; (exact (HB.out.alloc _).drewN _); (rw [hd]); rintro e w1 ⟨rfl, q, rfl⟩))
    go_quiet (fail)
    go_wp2
    go_ret
    exact ⟨by rw [HE1.out]; rfl, (by (iterate 5 (refine But.set1 ?_ _)); exact But.drewN (But.alloc (But.refl _ _) _) _), fun _ => Blk.eq (((((((HB.out.alloc _).drewN _).set_ 0 _).set_ 1 _).set_ 2 _).set_ 3 _).set_ 4 _) rfl⟩
  case neg =>
    clear hl9 hl3
    have hd : decide (l < o) = false := by simpa using hio
    by_cases h1 : m < 1
    · have HE1 : Hid (z = 9) := Lib.hid (by rw [HE.out, if_pos (.inl h1)])
      go_enter Tryz.func96, Tryz.ntmps96
      go_wp2
      go_quiet (fail)
      go_wp2_with (first | (go_at_call 85; refine Calls.mono (inside_any b lk lh ln l o c n _ ?_) ?_; (exact (HB.out.alloc _).drewN _); (rw [hd]); rintro e w1 ⟨rfl, q, rfl⟩))
      go_ret
      exact ⟨by rw [HE1.out]; rfl, But.of_ext (by repeat (first | exact Ext.refl _ | assumption | refine Ext.alloc ?_ _ | refine Ext.drew ?_ | refine Ext.drewN ?_ _ | (refine Ext.setCell ?_ (by simp <;> omega) _) | refine Ext.trans ?_ (by assumption))) _, fun h => by rw [HE1.out] at h; exact absurd h (by decide)⟩
    by_cases h2 : li = 1
    case neg =>
      have HE1 : Hid (z = 9) := Lib.hid (by rw [HE.out, if_pos (.inr (.inl (by rw [if_neg hio]; exact h2)))])
      have e2 : (li != 1) = true := by simpa using h2
      clear h2 hio
      go_enter Tryz.func96, Tryz.ntmps96
      go_wp2
      go_quiet (fail)
      go_wp2_with (first | (go_at_call 85; refine Calls.mono (inside_any b lk lh ln l o c n _ ?_) ?_; (exact (HB.out.alloc _).drewN _); (rw [hd]); rintro e w1 ⟨rfl, q, rfl⟩))
      go_ret
      exact ⟨by rw [HE1.out]; rfl, But.of_ext (by repeat (first | exact Ext.refl _ | assumption | refine Ext.alloc ?_ _ | refine Ext.drew ?_ | refine Ext.drewN ?_ _ | (refine Ext.setCell ?_ (by simp <;> omega) _) | refine Ext.trans ?_ (by assumption))) _, fun h => by rw [HE1.out] at h; exact absurd h (by decide)⟩
    have HE1 : Hid (z = 0) := Lib.hid (by rw [HE.out, if_neg (by rw [if_neg hio, if_neg hio]; omega)])
    have e2 : (li != 1) = false := by simpa using h2
    clear h2 hio
    go_enter Tryz.func96, Tryz.ntmps96
    go_wp2
    go_quiet (fail)
    go_wp2_with (first | (go_at_call 85; refine Calls.mono (inside_any b lk lh ln l o c n _ ?_) ?_; (exact (HB.out.alloc _).drewN _); (rw [hd]); rintro e w1 ⟨rfl, q, rfl⟩))
    go_ret
    exact ⟨by rw [HE1.out]; rfl, (by (iterate 5 (refine But.set1 ?_ _)); exact But.drewN (But.alloc (But.refl _ _) _) _), fun _ => Blk.eq (((((((HB.out.alloc _).drewN _).set_ 0 _).set_ 1 _).set_ 2 _).set_ 3 _).set_ 4 _) rfl⟩
end
end Go.Proofs.YtfbdklminljecaaGreatDoor
namespace Go.Proofs.YtfbdklminljecaaGreatDoor
open Go.RowKit
section
variable (b : Nat) (lk lh ln l o c : Int) (n : Nat)
/-- Where the checker goes behind an item. -/
def lastOf (last x : IT) : IT := if x.kind = 1 then x else last
def callsOf (c : Int) (x : IT) : Int := if x.note = -1 then c else c + 1
set_option maxHeartbeats 16000000 in
set_option maxRecDepth 100000 in
theorem item_any (last x : IT) (W : World) (hB : Blk W b 146 #[.int .i64 last.kind, .int .i64 last.height, .int .i64 last.note, .int .i64 last.line, .int .i64 last.many, .int .i64 c, .int .i64 (n : Int)]) (hl : 0 ≤ last.line ∧ last.line ≤ last.many ∧ last.many ≤ 9223372036854775807) (hc : 0 ≤ c ∧ c ≤ 1000000) (hn : n ≤ 1000000) :
    Calls Tryz.prog 84 #[.pointer (some ⟨b, 0, none⟩), x.val] W (ItemP b 146 (itemErr n last.line last.many c x) #[.int .i64 (lastOf last x).kind, .int .i64 (lastOf last x).height, .int .i64 (lastOf last x).note, .int .i64 (lastOf last x).line, .int .i64 (lastOf last x).many, .int .i64 (callsOf c x), .int .i64 (n : Int)] W) := by
  obtain ⟨lk, lh, ln, l, o⟩ := last
  have cT := fun W h => pText_any b lk lh ln l o c n x W h hl
  have HLX : Hid (lastOf ⟨lk, lh, ln, l, o⟩ x = if x.kind = 1 then x else ⟨lk, lh, ln, l, o⟩) := Lib.hid rfl
  have HCN : Hid (callsOf c x = if x.note = -1 then c else c + 1) := Lib.hid rfl
  obtain ⟨k, h, nt, li, m⟩ := x
  have HE : Hid (itemErr n l o c ⟨k, h, nt, li, m⟩ = if ¬ (1 ≤ k ∧ k ≤ 4) then 15 else if ¬ (1 ≤ h ∧ h ≤ 2000) then 2
    else if (k = 4 ∧ nt ≠ -1) ∨ (k ≠ 1 ∧ (li ≠ 0 ∨ m ≠ 0)) then 3 else if k ≠ 1 ∧ l < o then 9 else if k = 1 ∧ (m < 1 ∨ li ≠ (if l < o then l + 1 else 1) ∨ m ≠ (if l < o then o else m)) then 9
    else if nt = -1 then 0 else if ¬ (0 ≤ nt ∧ nt ≤ (n : Int) - 1) then 6 else if nt ≠ c then 28 else 0) := Lib.hid rfl
  have HT : Hid (inErr l o ⟨k, h, nt, li, m⟩ = if m < 1 ∨ li ≠ (if l < o then l + 1 else 1) ∨ m ≠ (if l < o then o else m) then 9 else 0) := Lib.hid rfl
  generalize lastOf ⟨lk, lh, ln, l, o⟩ ⟨k, h, nt, li, m⟩ = la at *
  generalize callsOf c ⟨k, h, nt, li, m⟩ = cn at *
  simp only at hB hl ⊢
  generalize itemErr n l o c ⟨k, h, nt, li, m⟩ = z at *
  generalize inErr l o ⟨k, h, nt, li, m⟩ = zt at *
  simp only [IT.val] at *
  clear hl
  obtain ⟨hc1, hc2⟩ := hc
  have hn1 : (0 : Int) ≤ (n : Int) := by omega
  have hn2 : (n : Int) ≤ 1000000 := by omega
  have HCT := Lib.hid cT; clear cT
  have c0 := hB.cell 0 _ rfl
  have c1 := hB.cell 1 _ rfl
  have c2 := hB.cell 2 _ rfl
  have c3 := hB.cell 3 _ rfl
  have c4 := hB.cell 4 _ rfl
  have c5 := hB.cell 5 _ rfl
  have c6 := hB.cell 6 _ rfl
  have f0 := hB.frozen 0
  have f1 := hB.frozen 1
  have f2 := hB.frozen 2
  have f3 := hB.frozen 3
  have f4 := hB.frozen 4
  have f5 := hB.frozen 5
  have hlt := hB.lt
  have hbs : b ≠ W.heap.size := by omega
  have hbs2 : W.heap.size ≠ b := by omega
  have HB := Lib.hid hB
  clear hB hn

  by_cases a1 : 1 ≤ k ∧ k ≤ 4
  case neg =>
    have hz : z = 15 := by rw [HE.out, if_pos a1]
    have HZ := Lib.hid hz; clear hz
    go_enter Tryz.func84, Tryz.ntmps84
    go_wp2_with (first | (go_at_call 68; refine Calls.mono (isHeight_yes _ _ ?_) ?_; (omega); rintro e w1 ⟨rfl, rfl⟩) | (go_at_call 68; refine Calls.mono (isHeight_no _ _ ?_) ?_; (omega); rintro e w1 ⟨rfl, rfl⟩) | (go_at_call 37; refine Calls.mono (pWithin_yes _ _ _ _ ?_) ?_; (omega); rintro e w1 ⟨rfl, rfl⟩) | (go_at_call 37; refine Calls.mono (pWithin_no _ _ _ _ ?_) ?_; (omega); rintro e w1 ⟨rfl, rfl⟩))
    go_ret
    exact ⟨by rw [HZ.out]; rfl, But.of_ext (by repeat (first | exact Ext.refl _ | assumption | refine Ext.alloc ?_ _ | refine Ext.drew ?_ | refine Ext.drewN ?_ _ | (refine Ext.setCell ?_ (by simp <;> omega) _) | refine Ext.trans ?_ (by assumption))) _, fun h => by rw [HZ.out] at h; exact absurd h (by decide)⟩
  by_cases a2 : 1 ≤ h ∧ h ≤ 2000
  case neg =>
    have hz : z = 2 := by rw [HE.out, if_neg (by omega), if_pos a2]
    have HZ := Lib.hid hz; clear hz
    go_enter Tryz.func84, Tryz.ntmps84
    go_wp2_with (first | (go_at_call 68; refine Calls.mono (isHeight_yes _ _ ?_) ?_; (omega); rintro e w1 ⟨rfl, rfl⟩) | (go_at_call 68; refine Calls.mono (isHeight_no _ _ ?_) ?_; (omega); rintro e w1 ⟨rfl, rfl⟩) | (go_at_call 37; refine Calls.mono (pWithin_yes _ _ _ _ ?_) ?_; (omega); rintro e w1 ⟨rfl, rfl⟩) | (go_at_call 37; refine Calls.mono (pWithin_no _ _ _ _ ?_) ?_; (omega); rintro e w1 ⟨rfl, rfl⟩))
    go_ret
    exact ⟨by rw [HZ.out]; rfl, But.of_ext (by repeat (first | exact Ext.refl _ | assumption | refine Ext.alloc ?_ _ | refine Ext.drew ?_ | refine Ext.drewN ?_ _ | (refine Ext.setCell ?_ (by simp <;> omega) _) | refine Ext.trans ?_ (by assumption))) _, fun h => by rw [HZ.out] at h; exact absurd h (by decide)⟩
  by_cases a3 : k = 4
  case pos =>
    subst a3
    clear a1
    by_cases a4 : nt = -1
    case neg =>
      have e1 : (nt != -1) = true := by simpa using a4
      have hz : z = 3 := by rw [HE.out, if_neg (by omega), if_neg (by omega), if_pos (.inl ⟨rfl, a4⟩)]
      have HZ := Lib.hid hz; clear hz
      go_enter Tryz.func84, Tryz.ntmps84
      go_wp2_with (first | (go_at_call 68; refine Calls.mono (isHeight_yes _ _ ?_) ?_; (omega); rintro e w1 ⟨rfl, rfl⟩) | (go_at_call 68; refine Calls.mono (isHeight_no _ _ ?_) ?_; (omega); rintro e w1 ⟨rfl, rfl⟩) | (go_at_call 37; refine Calls.mono (pWithin_yes _ _ _ _ ?_) ?_; (omega); rintro e w1 ⟨rfl, rfl⟩) | (go_at_call 37; refine Calls.mono (pWithin_no _ _ _ _ ?_) ?_; (omega); rintro e w1 ⟨rfl, rfl⟩))
      go_ret
      exact ⟨by rw [HZ.out]; rfl, But.of_ext (by repeat (first | exact Ext.refl _ | assumption | refine Ext.alloc ?_ _ | refine Ext.drew ?_ | refine Ext.drewN ?_ _ | (refine Ext.setCell ?_ (by simp <;> omega) _) | refine Ext.trans ?_ (by assumption))) _, fun h => by rw [HZ.out] at h; exact absurd h (by decide)⟩
    have e1 : (nt != -1) = false := by simpa using a4
    by_cases a5 : li = 0
    case neg =>
      have e2 : (li != 0) = true := by simpa using a5
      have hz : z = 3 := by rw [HE.out, if_neg (by omega), if_neg (by omega), if_pos (.inr ⟨by omega, .inl a5⟩)]
      have HZ := Lib.hid hz; clear hz
      go_enter Tryz.func84, Tryz.ntmps84
      go_wp2_with (first | (go_at_call 68; refine Calls.mono (isHeight_yes _ _ ?_) ?_; (omega); rintro e w1 ⟨rfl, rfl⟩) | (go_at_call 68; refine Calls.mono (isHeight_no _ _ ?_) ?_; (omega); rintro e w1 ⟨rfl, rfl⟩) | (go_at_call 37; refine Calls.mono (pWithin_yes _ _ _ _ ?_) ?_; (omega); rintro e w1 ⟨rfl, rfl⟩) | (go_at_call 37; refine Calls.mono (pWithin_no _ _ _ _ ?_) ?_; (omega); rintro e w1 ⟨rfl, rfl⟩))
      go_ret
      exact ⟨by rw [HZ.out]; rfl, But.of_ext (by repeat (first | exact Ext.refl _ | assumption | refine Ext.alloc ?_ _ | refine Ext.drew ?_ | refine Ext.drewN ?_ _ | (refine Ext.setCell ?_ (by simp <;> omega) _) | refine Ext.trans ?_ (by assumption))) _, fun h => by rw [HZ.out] at h; exact absurd h (by decide)⟩
    have e2 : (li != 0) = false := by simpa using a5
    by_cases a6 : m = 0
    case neg =>
      have e3 : (m != 0) = true := by simpa using a6
      have hz : z = 3 := by rw [HE.out, if_neg (by omega), if_neg (by omega), if_pos (.inr ⟨by omega, .inr a6⟩)]
      have HZ := Lib.hid hz; clear hz
      go_enter Tryz.func84, Tryz.ntmps84
      go_wp2_with (first | (go_at_call 68; refine Calls.mono (isHeight_yes _ _ ?_) ?_; (omega); rintro e w1 ⟨rfl, rfl⟩) | (go_at_call 68; refine Calls.mono (isHeight_no _ _ ?_) ?_; (omega); rintro e w1 ⟨rfl, rfl⟩) | (go_at_call 37; refine Calls.mono (pWithin_yes _ _ _ _ ?_) ?_; (omega); rintro e w1 ⟨rfl, rfl⟩) | (go_at_call 37; refine Calls.mono (pWithin_no _ _ _ _ ?_) ?_; (omega); rintro e w1 ⟨rfl, rfl⟩))
      go_ret
      exact ⟨by rw [HZ.out]; rfl, But.of_ext (by repeat (first | exact Ext.refl _ | assumption | refine Ext.alloc ?_ _ | refine Ext.drew ?_ | refine Ext.drewN ?_ _ | (refine Ext.setCell ?_ (by simp <;> omega) _) | refine Ext.trans ?_ (by assumption))) _, fun h => by rw [HZ.out] at h; exact absurd h (by decide)⟩
    have e3 : (m != 0) = false := by simpa using a6
    by_cases a7 : l < o
    case pos =>
      have hd : decide (l < o) = true := by simpa using a7
      have hz : z = 9 := by rw [HE.out, if_neg (by omega), if_neg (by omega), if_neg (by omega), if_pos ⟨by omega, a7⟩]
      have HZ := Lib.hid hz; clear hz
      go_enter Tryz.func84, Tryz.ntmps84
      go_wp2_with (first | (go_at_call 68; refine Calls.mono (isHeight_yes _ _ ?_) ?_; (omega); rintro e w1 ⟨rfl, rfl⟩) | (go_at_call 68; refine Calls.mono (isHeight_no _ _ ?_) ?_; (omega); rintro e w1 ⟨rfl, rfl⟩) | (go_at_call 37; refine Calls.mono (pWithin_yes _ _ _ _ ?_) ?_; (omega); rintro e w1 ⟨rfl, rfl⟩) | (go_at_call 37; refine Calls.mono (pWithin_no _ _ _ _ ?_) ?_; (omega); rintro e w1 ⟨rfl, rfl⟩) | (go_at_call 85; refine Calls.mono (inside_any b lk lh ln l o c n _ ?_) ?_; (exact HB.out.alloc _); (rw [hd]); rintro e w1 ⟨rfl, q, rfl⟩))
      go_ret
      exact ⟨by rw [HZ.out]; rfl, But.of_ext (by repeat (first | exact Ext.refl _ | assumption | refine Ext.alloc ?_ _ | refine Ext.drew ?_ | refine Ext.drewN ?_ _ | (refine Ext.setCell ?_ (by simp <;> omega) _) | refine Ext.trans ?_ (by assumption))) _, fun h => by rw [HZ.out] at h; exact absurd h (by decide)⟩
    have hd : decide (l < o) = false := by simpa using a7
    by_cases b1 : nt = -1
    case pos =>
      have e9 : (nt == -1) = true := by simpa using b1
      have hz : z = 0 := by rw [HE.out, if_neg (by omega), if_neg (by omega), if_neg (by omega), if_neg (by omega), if_neg (by omega), if_pos b1]
      have HLA : Hid (la = ⟨lk, lh, ln, l, o⟩) := Lib.hid (show la = ⟨lk, lh, ln, l, o⟩ from by rw [HLX.out]; exact if_neg (by omega))
      have HN : Hid (cn = c) := Lib.hid (by rw [HCN.out]; exact if_pos b1)
      have HZ := Lib.hid hz; clear hz b1
      go_enter Tryz.func84, Tryz.ntmps84
      go_wp2_with (first | (go_at_call 68; refine Calls.mono (isHeight_yes _ _ ?_) ?_; (omega); rintro e w1 ⟨rfl, rfl⟩) | (go_at_call 68; refine Calls.mono (isHeight_no _ _ ?_) ?_; (omega); rintro e w1 ⟨rfl, rfl⟩) | (go_at_call 37; refine Calls.mono (pWithin_yes _ _ _ _ ?_) ?_; (omega); rintro e w1 ⟨rfl, rfl⟩) | (go_at_call 37; refine Calls.mono (pWithin_no _ _ _ _ ?_) ?_; (omega); rintro e w1 ⟨rfl, rfl⟩) | (go_at_call 85; refine Calls.mono (inside_any b lk lh ln l o c n _ ?_) ?_; (exact HB.out.alloc _); (rw [hd]); rintro e w1 ⟨rfl, q, rfl⟩))
      go_ret
      exact ⟨by rw [HZ.out]; rfl, (But.of_ext (by repeat (first | exact Ext.refl _ | assumption | refine Ext.alloc ?_ _ | refine Ext.drew ?_ | refine Ext.drewN ?_ _ | (refine Ext.setCell ?_ (by simp <;> omega) _) | refine Ext.trans ?_ (by assumption))) _), fun _ => by rw [HLA.out, HN.out]; exact Blk.ext (HB.out.alloc _) (by repeat (first | exact Ext.refl _ | assumption | refine Ext.alloc ?_ _ | refine Ext.drew ?_ | refine Ext.drewN ?_ _ | (refine Ext.setCell ?_ (by simp <;> omega) _) | refine Ext.trans ?_ (by assumption)))⟩
    exact absurd a4 b1
  have e3 : (k == 4) = false := by simpa using a3
  by_cases a8 : k = 1
  case neg =>
    have e4 : (k != 1) = true := by simpa using a8
    have e5 : (k == 1) = false := by simpa using a8
    by_cases a5 : li = 0
    case neg =>
      have e2 : (li != 0) = true := by simpa using a5
      have hz : z = 3 := by rw [HE.out, if_neg (by omega), if_neg (by omega), if_pos (.inr ⟨a8, .inl a5⟩)]
      have HZ := Lib.hid hz; clear hz
      go_enter Tryz.func84, Tryz.ntmps84
      go_wp2_with (first | (go_at_call 68; refine Calls.mono (isHeight_yes _ _ ?_) ?_; (omega); rintro e w1 ⟨rfl, rfl⟩) | (go_at_call 68; refine Calls.mono (isHeight_no _ _ ?_) ?_; (omega); rintro e w1 ⟨rfl, rfl⟩) | (go_at_call 37; refine Calls.mono (pWithin_yes _ _ _ _ ?_) ?_; (omega); rintro e w1 ⟨rfl, rfl⟩) | (go_at_call 37; refine Calls.mono (pWithin_no _ _ _ _ ?_) ?_; (omega); rintro e w1 ⟨rfl, rfl⟩))
      go_ret
      exact ⟨by rw [HZ.out]; rfl, But.of_ext (by repeat (first | exact Ext.refl _ | assumption | refine Ext.alloc ?_ _ | refine Ext.drew ?_ | refine Ext.drewN ?_ _ | (refine Ext.setCell ?_ (by simp <;> omega) _) | refine Ext.trans ?_ (by assumption))) _, fun h => by rw [HZ.out] at h; exact absurd h (by decide)⟩
    have e2 : (li != 0) = false := by simpa using a5
    by_cases a6 : m = 0
    case neg =>
      have e6 : (m != 0) = true := by simpa using a6
      have hz : z = 3 := by rw [HE.out, if_neg (by omega), if_neg (by omega), if_pos (.inr ⟨a8, .inr a6⟩)]
      have HZ := Lib.hid hz; clear hz
      go_enter Tryz.func84, Tryz.ntmps84
      go_wp2_with (first | (go_at_call 68; refine Calls.mono (isHeight_yes _ _ ?_) ?_; (omega); rintro e w1 ⟨rfl, rfl⟩) | (go_at_call 68; refine Calls.mono (isHeight_no _ _ ?_) ?_; (omega); rintro e w1 ⟨rfl, rfl⟩) | (go_at_call 37; refine Calls.mono (pWithin_yes _ _ _ _ ?_) ?_; (omega); rintro e w1 ⟨rfl, rfl⟩) | (go_at_call 37; refine Calls.mono (pWithin_no _ _ _ _ ?_) ?_; (omega); rintro e w1 ⟨rfl, rfl⟩))
      go_ret
      exact ⟨by rw [HZ.out]; rfl, But.of_ext (by repeat (first | exact Ext.refl _ | assumption | refine Ext.alloc ?_ _ | refine Ext.drew ?_ | refine Ext.drewN ?_ _ | (refine Ext.setCell ?_ (by simp <;> omega) _) | refine Ext.trans ?_ (by assumption))) _, fun h => by rw [HZ.out] at h; exact absurd h (by decide)⟩
    have e6 : (m != 0) = false := by simpa using a6
    by_cases a7 : l < o
    case pos =>
      have hd : decide (l < o) = true := by simpa using a7
      have hz : z = 9 := by rw [HE.out, if_neg (by omega), if_neg (by omega), if_neg (by omega), if_pos ⟨by omega, a7⟩]
      have HZ := Lib.hid hz; clear hz
      go_enter Tryz.func84, Tryz.ntmps84
      go_wp2_with (first | (go_at_call 68; refine Calls.mono (isHeight_yes _ _ ?_) ?_; (omega); rintro e w1 ⟨rfl, rfl⟩) | (go_at_call 68; refine Calls.mono (isHeight_no _ _ ?_) ?_; (omega); rintro e w1 ⟨rfl, rfl⟩) | (go_at_call 37; refine Calls.mono (pWithin_yes _ _ _ _ ?_) ?_; (omega); rintro e w1 ⟨rfl, rfl⟩) | (go_at_call 37; refine Calls.mono (pWithin_no _ _ _ _ ?_) ?_; (omega); rintro e w1 ⟨rfl, rfl⟩) | (go_at_call 85; refine Calls.mono (inside_any b lk lh ln l o c n _ ?_) ?_; (exact HB.out.alloc _); (rw [hd]); rintro e w1 ⟨rfl, q, rfl⟩))
      go_ret
      exact ⟨by rw [HZ.out]; rfl, But.of_ext (by repeat (first | exact Ext.refl _ | assumption | refine Ext.alloc ?_ _ | refine Ext.drew ?_ | refine Ext.drewN ?_ _ | (refine Ext.setCell ?_ (by simp <;> omega) _) | refine Ext.trans ?_ (by assumption))) _, fun h => by rw [HZ.out] at h; exact absurd h (by decide)⟩
    have hd : decide (l < o) = false := by simpa using a7
    by_cases b1 : nt = -1
    case pos =>
      have e9 : (nt == -1) = true := by simpa using b1
      have hz : z = 0 := by rw [HE.out, if_neg (by omega), if_neg (by omega), if_neg (by omega), if_neg (by omega), if_neg (by omega), if_pos b1]
      have HLA : Hid (la = ⟨lk, lh, ln, l, o⟩) := Lib.hid (show la = ⟨lk, lh, ln, l, o⟩ from by rw [HLX.out]; exact if_neg (by omega))
      have HN : Hid (cn = c) := Lib.hid (by rw [HCN.out]; exact if_pos b1)
      have HZ := Lib.hid hz; clear hz b1
      go_enter Tryz.func84, Tryz.ntmps84
      go_wp2_with (first | (go_at_call 68; refine Calls.mono (isHeight_yes _ _ ?_) ?_; (omega); rintro e w1 ⟨rfl, rfl⟩) | (go_at_call 68; refine Calls.mono (isHeight_no _ _ ?_) ?_; (omega); rintro e w1 ⟨rfl, rfl⟩) | (go_at_call 37; refine Calls.mono (pWithin_yes _ _ _ _ ?_) ?_; (omega); rintro e w1 ⟨rfl, rfl⟩) | (go_at_call 37; refine Calls.mono (pWithin_no _ _ _ _ ?_) ?_; (omega); rintro e w1 ⟨rfl, rfl⟩) | (go_at_call 85; refine Calls.mono (inside_any b lk lh ln l o c n _ ?_) ?_; (exact HB.out.alloc _); (rw [hd]); rintro e w1 ⟨rfl, q, rfl⟩))
      go_ret
      exact ⟨by rw [HZ.out]; rfl, (But.of_ext (by repeat (first | exact Ext.refl _ | assumption | refine Ext.alloc ?_ _ | refine Ext.drew ?_ | refine Ext.drewN ?_ _ | (refine Ext.setCell ?_ (by simp <;> omega) _) | refine Ext.trans ?_ (by assumption))) _), fun _ => by rw [HLA.out, HN.out]; exact Blk.ext (HB.out.alloc _) (by repeat (first | exact Ext.refl _ | assumption | refine Ext.alloc ?_ _ | refine Ext.drew ?_ | refine Ext.drewN ?_ _ | (refine Ext.setCell ?_ (by simp <;> omega) _) | refine Ext.trans ?_ (by assumption)))⟩
    have e9 : (nt == -1) = false := by simpa using b1
    by_cases b2 : 0 ≤ nt ∧ nt ≤ (n : Int) - 1
    case neg =>
      have hz : z = 6 := by rw [HE.out, if_neg (by omega), if_neg (by omega), if_neg (by omega), if_neg (by omega), if_neg (by omega), if_neg b1, if_pos b2]
      have HZ := Lib.hid hz; clear hz b1
      go_enter Tryz.func84, Tryz.ntmps84
      go_wp2_with (first | (go_at_call 68; refine Calls.mono (isHeight_yes _ _ ?_) ?_; (omega); rintro e w1 ⟨rfl, rfl⟩) | (go_at_call 68; refine Calls.mono (isHeight_no _ _ ?_) ?_; (omega); rintro e w1 ⟨rfl, rfl⟩) | (go_at_call 37; refine Calls.mono (pWithin_yes _ _ _ _ ?_) ?_; (omega); rintro e w1 ⟨rfl, rfl⟩) | (go_at_call 37; refine Calls.mono (pWithin_no _ _ _ _ ?_) ?_; (omega); rintro e w1 ⟨rfl, rfl⟩) | (go_at_call 85; refine Calls.mono (inside_any b lk lh ln l o c n _ ?_) ?_; (exact HB.out.alloc _); (rw [hd]); rintro e w1 ⟨rfl, q, rfl⟩))
      go_quiet ((go_at_call 37; first | exact Same.quiet (pWithin_yes _ _ _ _ (by omega)) | exact Same.quiet (pWithin_no _ _ _ _ (by omega)) | exact Same.quiet_add (pWithin_yes _ _ _ _ (by omega)) | exact Same.quiet_add (pWithin_no _ _ _ _ (by omega))))
      go_wp2
      go_ret
      exact ⟨by rw [HZ.out]; rfl, But.of_ext (by repeat (first | exact Ext.refl _ | assumption | refine Ext.alloc ?_ _ | refine Ext.drew ?_ | refine Ext.drewN ?_ _ | (refine Ext.setCell ?_ (by simp <;> omega) _) | refine Ext.trans ?_ (by assumption))) _, fun h => by rw [HZ.out] at h; exact absurd h (by decide)⟩
    by_cases b3 : nt = c
    case neg =>
      have e8 : (nt != c) = true := by simpa using b3
      have hz : z = 28 := by rw [HE.out, if_neg (by omega), if_neg (by omega), if_neg (by omega), if_neg (by omega), if_neg (by omega), if_neg b1, if_neg (by omega), if_pos b3]
      have HZ := Lib.hid hz; clear hz b1 b3
      go_enter Tryz.func84, Tryz.ntmps84
      go_wp2_with (first | (go_at_call 68; refine Calls.mono (isHeight_yes _ _ ?_) ?_; (omega); rintro e w1 ⟨rfl, rfl⟩) | (go_at_call 68; refine Calls.mono (isHeight_no _ _ ?_) ?_; (omega); rintro e w1 ⟨rfl, rfl⟩) | (go_at_call 37; refine Calls.mono (pWithin_yes _ _ _ _ ?_) ?_; (omega); rintro e w1 ⟨rfl, rfl⟩) | (go_at_call 37; refine Calls.mono (pWithin_no _ _ _ _ ?_) ?_; (omega); rintro e w1 ⟨rfl, rfl⟩) | (go_at_call 85; refine Calls.mono (inside_any b lk lh ln l o c n _ ?_) ?_; (exact HB.out.alloc _); (rw [hd]); rintro e w1 ⟨rfl, q, rfl⟩))
      go_quiet ((go_at_call 37; first | exact Same.quiet (pWithin_yes _ _ _ _ (by omega)) | exact Same.quiet (pWithin_no _ _ _ _ (by omega)) | exact Same.quiet_add (pWithin_yes _ _ _ _ (by omega)) | exact Same.quiet_add (pWithin_no _ _ _ _ (by omega))))
      go_wp2
      go_quiet (fail)
      go_wp2
      go_ret
      exact ⟨by rw [HZ.out]; rfl, But.of_ext (by repeat (first | exact Ext.refl _ | assumption | refine Ext.alloc ?_ _ | refine Ext.drew ?_ | refine Ext.drewN ?_ _ | (refine Ext.setCell ?_ (by simp <;> omega) _) | refine Ext.trans ?_ (by assumption))) _, fun h => by rw [HZ.out] at h; exact absurd h (by decide)⟩
    have e8 : (nt != c) = false := by simpa using b3
    have hz : z = 0 := by rw [HE.out, if_neg (by omega), if_neg (by omega), if_neg (by omega), if_neg (by omega), if_neg (by omega), if_neg b1, if_neg (by omega), if_neg (by omega)]
    have HLA : Hid (la = ⟨lk, lh, ln, l, o⟩) := Lib.hid (show la = ⟨lk, lh, ln, l, o⟩ from by rw [HLX.out]; exact if_neg (by omega))
    have HN : Hid (cn = c + 1) := Lib.hid (by rw [HCN.out]; exact if_neg b1)
    have HZ := Lib.hid hz; clear hz b1 b3
    go_enter Tryz.func84, Tryz.ntmps84
    go_wp2_with (first | (go_at_call 68; refine Calls.mono (isHeight_yes _ _ ?_) ?_; (omega); rintro e w1 ⟨rfl, rfl⟩) | (go_at_call 68; refine Calls.mono (isHeight_no _ _ ?_) ?_; (omega); rintro e w1 ⟨rfl, rfl⟩) | (go_at_call 37; refine Calls.mono (pWithin_yes _ _ _ _ ?_) ?_; (omega); rintro e w1 ⟨rfl, rfl⟩) | (go_at_call 37; refine Calls.mono (pWithin_no _ _ _ _ ?_) ?_; (omega); rintro e w1 ⟨rfl, rfl⟩) | (go_at_call 85; refine Calls.mono (inside_any b lk lh ln l o c n _ ?_) ?_; (exact HB.out.alloc _); (rw [hd]); rintro e w1 ⟨rfl, q, rfl⟩))
    go_quiet ((go_at_call 37; first | exact Same.quiet (pWithin_yes _ _ _ _ (by omega)) | exact Same.quiet (pWithin_no _ _ _ _ (by omega)) | exact Same.quiet_add (pWithin_yes _ _ _ _ (by omega)) | exact Same.quiet_add (pWithin_no _ _ _ _ (by omega))))
    go_wp2
    go_quiet (fail)
    go_wp2
    go_ret
    exact ⟨by rw [HZ.out]; rfl, But.set1 (But.of_ext (by repeat (first | exact Ext.refl _ | assumption | refine Ext.alloc ?_ _ | refine Ext.drew ?_ | refine Ext.drewN ?_ _ | (refine Ext.setCell ?_ (by simp <;> omega) _) | refine Ext.trans ?_ (by assumption))) _) _, fun _ => by rw [HLA.out, HN.out]; exact Blk.eq ((Blk.ext (HB.out.alloc _) (by repeat (first | exact Ext.refl _ | assumption | refine Ext.alloc ?_ _ | refine Ext.drew ?_ | refine Ext.drewN ?_ _ | (refine Ext.setCell ?_ (by simp <;> omega) _) | refine Ext.trans ?_ (by assumption)))).set_ 5 _) rfl⟩
  subst a8
  clear a1 a3
  by_cases a9 : m < 1 ∨ li ≠ (if l < o then l + 1 else 1) ∨ m ≠ (if l < o then o else m)
  case pos =>
    have hzt : zt = 9 := by rw [HT.out, if_pos a9]
    subst hzt
    have hz : z = 9 := by rw [HE.out, if_neg (by omega), if_neg (by omega), if_neg (by omega), if_neg (by omega), if_pos ⟨rfl, a9⟩]
    have HZ := Lib.hid hz; clear hz
    go_enter Tryz.func84, Tryz.ntmps84
    go_wp2_with (first | (go_at_call 68; refine Calls.mono (isHeight_yes _ _ ?_) ?_; (omega); rintro e w1 ⟨rfl, rfl⟩) | (go_at_call 68; refine Calls.mono (isHeight_no _ _ ?_) ?_; (omega); rintro e w1 ⟨rfl, rfl⟩) | (go_at_call 37; refine Calls.mono (pWithin_yes _ _ _ _ ?_) ?_; (omega); rintro e w1 ⟨rfl, rfl⟩) | (go_at_call 37; refine Calls.mono (pWithin_no _ _ _ _ ?_) ?_; (omega); rintro e w1 ⟨rfl, rfl⟩) | (go_at_call 96; refine Calls.mono (HCT.out _ ?_) ?_; (exact HB.out.alloc _); rintro e w1 ⟨rfl, hbut, hblk⟩; have FX := (Blk.new W 85 #[.int .i64 1, .int .i64 h, .int .i64 nt, .int .i64 li, .int .i64 m]).but hbut (fun e9 => hbs (List.mem_singleton.1 e9).symm); have x2 := FX.cell 2 _ rfl; have HBT := Lib.hid hbut; have HBK := Lib.hid hblk; have hbz := hbut.size; (try (have hbk := hblk rfl; have c5 := hbk.cell 5 _ rfl; have c6 := hbk.cell 6 _ rfl; have f5 := hbk.frozen 5)); clear hbut hblk FX))
    go_ret
    exact ⟨by rw [HZ.out]; rfl, (But.of_ext (by repeat (first | exact Ext.refl _ | assumption | refine Ext.alloc ?_ _ | refine Ext.drew ?_ | refine Ext.drewN ?_ _ | (refine Ext.setCell ?_ (by simp <;> omega) _) | refine Ext.trans ?_ (by assumption))) _).trans (HBT.out.trans (But.of_ext (by repeat (first | exact Ext.refl _ | assumption | refine Ext.alloc ?_ _ | refine Ext.drew ?_ | refine Ext.drewN ?_ _ | (refine Ext.setCell ?_ (by simp <;> omega) _) | refine Ext.trans ?_ (by assumption))) _)), fun h => by rw [HZ.out] at h; exact absurd h (by decide)⟩
  have hzt : zt = 0 := by rw [HT.out, if_neg a9]
  subst hzt
  by_cases b1 : nt = -1
  case pos =>
    have e9 : (nt == -1) = true := by simpa using b1
    have hz : z = 0 := by rw [HE.out, if_neg (by omega), if_neg (by omega), if_neg (by omega), if_neg (by omega), if_neg (fun h9 => a9 h9.2), if_pos b1]
    have HLA : Hid (la = ⟨1, h, nt, li, m⟩) := Lib.hid (show la = ⟨1, h, nt, li, m⟩ from by rw [HLX.out]; exact if_pos rfl)
    have HN : Hid (cn = c) := Lib.hid (by rw [HCN.out]; exact if_pos b1)
    have HZ := Lib.hid hz; clear hz b1
    go_enter Tryz.func84, Tryz.ntmps84
    go_wp2_with (first | (go_at_call 68; refine Calls.mono (isHeight_yes _ _ ?_) ?_; (omega); rintro e w1 ⟨rfl, rfl⟩) | (go_at_call 68; refine Calls.mono (isHeight_no _ _ ?_) ?_; (omega); rintro e w1 ⟨rfl, rfl⟩) | (go_at_call 37; refine Calls.mono (pWithin_yes _ _ _ _ ?_) ?_; (omega); rintro e w1 ⟨rfl, rfl⟩) | (go_at_call 37; refine Calls.mono (pWithin_no _ _ _ _ ?_) ?_; (omega); rintro e w1 ⟨rfl, rfl⟩) | (go_at_call 96; refine Calls.mono (HCT.out _ ?_) ?_; (exact HB.out.alloc _); rintro e w1 ⟨rfl, hbut, hblk⟩; have FX := (Blk.new W 85 #[.int .i64 1, .int .i64 h, .int .i64 nt, .int .i64 li, .int .i64 m]).but hbut (fun e9 => hbs (List.mem_singleton.1 e9).symm); have x2 := FX.cell 2 _ rfl; have HBT := Lib.hid hbut; have HBK := Lib.hid hblk; have hbz := hbut.size; (try (have hbk := hblk rfl; have c5 := hbk.cell 5 _ rfl; have c6 := hbk.cell 6 _ rfl; have f5 := hbk.frozen 5)); clear hbut hblk FX))
    go_ret
    exact ⟨by rw [HZ.out]; rfl, (But.of_ext (by repeat (first | exact Ext.refl _ | assumption | refine Ext.alloc ?_ _ | refine Ext.drew ?_ | refine Ext.drewN ?_ _ | (refine Ext.setCell ?_ (by simp <;> omega) _) | refine Ext.trans ?_ (by assumption))) _).trans (HBT.out.trans (But.of_ext (by repeat (first | exact Ext.refl _ | assumption | refine Ext.alloc ?_ _ | refine Ext.drew ?_ | refine Ext.drewN ?_ _ | (refine Ext.setCell ?_ (by simp <;> omega) _) | refine Ext.trans ?_ (by assumption))) _)), fun _ => by rw [HLA.out, HN.out]; exact Blk.ext (HBK.out (by first | rfl | trivial)) (by repeat (first | exact Ext.refl _ | assumption | refine Ext.alloc ?_ _ | refine Ext.drew ?_ | refine Ext.drewN ?_ _ | (refine Ext.setCell ?_ (by simp <;> omega) _) | refine Ext.trans ?_ (by assumption)))⟩
  have e9 : (nt == -1) = false := by simpa using b1
  by_cases b2 : 0 ≤ nt ∧ nt ≤ (n : Int) - 1
  case neg =>
    have hz : z = 6 := by rw [HE.out, if_neg (by omega), if_neg (by omega), if_neg (by omega), if_neg (by omega), if_neg (fun h9 => a9 h9.2), if_neg b1, if_pos b2]
    have HZ := Lib.hid hz; clear hz b1
    go_enter Tryz.func84, Tryz.ntmps84
    go_wp2_with (first | (go_at_call 68; refine Calls.mono (isHeight_yes _ _ ?_) ?_; (omega); rintro e w1 ⟨rfl, rfl⟩) | (go_at_call 68; refine Calls.mono (isHeight_no _ _ ?_) ?_; (omega); rintro e w1 ⟨rfl, rfl⟩) | (go_at_call 37; refine Calls.mono (pWithin_yes _ _ _ _ ?_) ?_; (omega); rintro e w1 ⟨rfl, rfl⟩) | (go_at_call 37; refine Calls.mono (pWithin_no _ _ _ _ ?_) ?_; (omega); rintro e w1 ⟨rfl, rfl⟩) | (go_at_call 96; refine Calls.mono (HCT.out _ ?_) ?_; (exact HB.out.alloc _); rintro e w1 ⟨rfl, hbut, hblk⟩; have FX := (Blk.new W 85 #[.int .i64 1, .int .i64 h, .int .i64 nt, .int .i64 li, .int .i64 m]).but hbut (fun e9 => hbs (List.mem_singleton.1 e9).symm); have x2 := FX.cell 2 _ rfl; have HBT := Lib.hid hbut; have HBK := Lib.hid hblk; have hbz := hbut.size; (try (have hbk := hblk rfl; have c5 := hbk.cell 5 _ rfl; have c6 := hbk.cell 6 _ rfl; have f5 := hbk.frozen 5)); clear hbut hblk FX))
    go_quiet ((go_at_call 37; first | exact Same.quiet (pWithin_yes _ _ _ _ (by omega)) | exact Same.quiet (pWithin_no _ _ _ _ (by omega)) | exact Same.quiet_add (pWithin_yes _ _ _ _ (by omega)) | exact Same.quiet_add (pWithin_no _ _ _ _ (by omega))))
    go_wp2
    go_ret
    exact ⟨by rw [HZ.out]; rfl, (But.of_ext (by repeat (first | exact Ext.refl _ | assumption | refine Ext.alloc ?_ _ | refine Ext.drew ?_ | refine Ext.drewN ?_ _ | (refine Ext.setCell ?_ (by simp <;> omega) _) | refine Ext.trans ?_ (by assumption))) _).trans (HBT.out.trans (But.of_ext (by repeat (first | exact Ext.refl _ | assumption | refine Ext.alloc ?_ _ | refine Ext.drew ?_ | refine Ext.drewN ?_ _ | (refine Ext.setCell ?_ (by simp <;> omega) _) | refine Ext.trans ?_ (by assumption))) _)), fun h => by rw [HZ.out] at h; exact absurd h (by decide)⟩
  by_cases b3 : nt = c
  case neg =>
    have e8 : (nt != c) = true := by simpa using b3
    have hz : z = 28 := by rw [HE.out, if_neg (by omega), if_neg (by omega), if_neg (by omega), if_neg (by omega), if_neg (fun h9 => a9 h9.2), if_neg b1, if_neg (by omega), if_pos b3]
    have HZ := Lib.hid hz; clear hz b1 b3
    go_enter Tryz.func84, Tryz.ntmps84
    go_wp2_with (first | (go_at_call 68; refine Calls.mono (isHeight_yes _ _ ?_) ?_; (omega); rintro e w1 ⟨rfl, rfl⟩) | (go_at_call 68; refine Calls.mono (isHeight_no _ _ ?_) ?_; (omega); rintro e w1 ⟨rfl, rfl⟩) | (go_at_call 37; refine Calls.mono (pWithin_yes _ _ _ _ ?_) ?_; (omega); rintro e w1 ⟨rfl, rfl⟩) | (go_at_call 37; refine Calls.mono (pWithin_no _ _ _ _ ?_) ?_; (omega); rintro e w1 ⟨rfl, rfl⟩) | (go_at_call 96; refine Calls.mono (HCT.out _ ?_) ?_; (exact HB.out.alloc _); rintro e w1 ⟨rfl, hbut, hblk⟩; have FX := (Blk.new W 85 #[.int .i64 1, .int .i64 h, .int .i64 nt, .int .i64 li, .int .i64 m]).but hbut (fun e9 => hbs (List.mem_singleton.1 e9).symm); have x2 := FX.cell 2 _ rfl; have HBT := Lib.hid hbut; have HBK := Lib.hid hblk; have hbz := hbut.size; (try (have hbk := hblk rfl; have c5 := hbk.cell 5 _ rfl; have c6 := hbk.cell 6 _ rfl; have f5 := hbk.frozen 5)); clear hbut hblk FX))
    go_quiet ((go_at_call 37; first | exact Same.quiet (pWithin_yes _ _ _ _ (by omega)) | exact Same.quiet (pWithin_no _ _ _ _ (by omega)) | exact Same.quiet_add (pWithin_yes _ _ _ _ (by omega)) | exact Same.quiet_add (pWithin_no _ _ _ _ (by omega))))
    go_wp2
    go_quiet (fail)
    go_wp2
    go_ret
    exact ⟨by rw [HZ.out]; rfl, (But.of_ext (by repeat (first | exact Ext.refl _ | assumption | refine Ext.alloc ?_ _ | refine Ext.drew ?_ | refine Ext.drewN ?_ _ | (refine Ext.setCell ?_ (by simp <;> omega) _) | refine Ext.trans ?_ (by assumption))) _).trans (HBT.out.trans (But.of_ext (by repeat (first | exact Ext.refl _ | assumption | refine Ext.alloc ?_ _ | refine Ext.drew ?_ | refine Ext.drewN ?_ _ | (refine Ext.setCell ?_ (by simp <;> omega) _) | refine Ext.trans ?_ (by assumption))) _)), fun h => by rw [HZ.out] at h; exact absurd h (by decide)⟩
  have e8 : (nt != c) = false := by simpa using b3
  have hz : z = 0 := by rw [HE.out, if_neg (by omega), if_neg (by omega), if_neg (by omega), if_neg (by omega), if_neg (fun h9 => a9 h9.2), if_neg b1, if_neg (by omega), if_neg (by omega)]
  have HLA : Hid (la = ⟨1, h, nt, li, m⟩) := Lib.hid (show la = ⟨1, h, nt, li, m⟩ from by rw [HLX.out]; exact if_pos rfl)
  have HN : Hid (cn = c + 1) := Lib.hid (by rw [HCN.out]; exact if_neg b1)
  have HZ := Lib.hid hz; clear hz b1 b3
  go_enter Tryz.func84, Tryz.ntmps84
  go_wp2_with (first | (go_at_call 68; refine Calls.mono (isHeight_yes _ _ ?_) ?_; (omega); rintro e w1 ⟨rfl, rfl⟩) | (go_at_call 68; refine Calls.mono (isHeight_no _ _ ?_) ?_; (omega); rintro e w1 ⟨rfl, rfl⟩) | (go_at_call 37; refine Calls.mono (pWithin_yes _ _ _ _ ?_) ?_; (omega); rintro e w1 ⟨rfl, rfl⟩) | (go_at_call 37; refine Calls.mono (pWithin_no _ _ _ _ ?_) ?_; (omega); rintro e w1 ⟨rfl, rfl⟩) | (go_at_call 96; refine Calls.mono (HCT.out _ ?_) ?_; (exact HB.out.alloc _); rintro e w1 ⟨rfl, hbut, hblk⟩; have FX := (Blk.new W 85 #[.int .i64 1, .int .i64 h, .int .i64 nt, .int .i64 li, .int .i64 m]).but hbut (fun e9 => hbs (List.mem_singleton.1 e9).symm); have x2 := FX.cell 2 _ rfl; have HBT := Lib.hid hbut; have HBK := Lib.hid hblk; have hbz := hbut.size; (try (have hbk := hblk rfl; have c5 := hbk.cell 5 _ rfl; have c6 := hbk.cell 6 _ rfl; have f5 := hbk.frozen 5)); clear hbut hblk FX))
  go_quiet ((go_at_call 37; first | exact Same.quiet (pWithin_yes _ _ _ _ (by omega)) | exact Same.quiet (pWithin_no _ _ _ _ (by omega)) | exact Same.quiet_add (pWithin_yes _ _ _ _ (by omega)) | exact Same.quiet_add (pWithin_no _ _ _ _ (by omega))))
  go_wp2
  go_quiet (fail)
  go_wp2
  go_ret
  exact ⟨by rw [HZ.out]; rfl, But.set1 ((But.of_ext (by repeat (first | exact Ext.refl _ | assumption | refine Ext.alloc ?_ _ | refine Ext.drew ?_ | refine Ext.drewN ?_ _ | (refine Ext.setCell ?_ (by simp <;> omega) _) | refine Ext.trans ?_ (by assumption))) _).trans (HBT.out.trans (But.of_ext (by repeat (first | exact Ext.refl _ | assumption | refine Ext.alloc ?_ _ | refine Ext.drew ?_ | refine Ext.drewN ?_ _ | (refine Ext.setCell ?_ (by simp <;> omega) _) | refine Ext.trans ?_ (by assumption))) _))) _, fun _ => by rw [HLA.out, HN.out]; exact Blk.eq ((Blk.ext (HBK.out (by first | rfl | trivial)) (by repeat (first | exact Ext.refl _ | assumption | refine Ext.alloc ?_ _ | refine Ext.drew ?_ | refine Ext.drewN ?_ _ | (refine Ext.setCell ?_ (by simp <;> omega) _) | refine Ext.trans ?_ (by assumption)))).set_ 5 _) rfl⟩
end
end Go.Proofs.YtfbdklminljecaaGreatDoor
namespace Go.Proofs.YtfbdklminljecaaGreatDoor
open Go.RowKit

/-- The cost of a page, or an error (not 0). -/
abbrev CS := Nat → Nat → Int × Int
def farC : Int := 1000000000000
structure LB where
  lab : List Int
  bef : List Int
def stepB (cs : CS) (a b : Nat) (s : LB) : LB :=
  if (cs a b).2 = 0 ∧ s.lab.getD a 0 + (cs a b).1 < s.lab.getD b 0 then ⟨s.lab.set b (s.lab.getD a 0 + (cs a b).1), s.bef.set b a⟩ else s
/-- Behind m pages that begin at a. -/
def rowB (cs : CS) (a : Nat) (s : LB) : Nat → LB
  | 0 => s
  | m + 1 => stepB cs a (a + m + 1) (rowB cs a s m)
def allB (cs : CS) (n : Nat) : Nat → LB
  | 0 => ⟨0 :: List.replicate n farC, List.replicate (n + 1) 0⟩
  | k + 1 => if (allB cs n k).lab.getD k 0 = farC then allB cs n k else rowB cs k (allB cs n k) (n - k)
/-- A way to b of cost c, over pages that begin before k. -/
inductive Way (cs : CS) (k : Nat) : Nat → Int → Prop
  | nil : Way cs k 0 0
  | page {a b : Nat} {c : Int} : Way cs k a c → a < b → a < k → (cs a b).2 = 0 → Way cs k b (c + (cs a b).1)
def Least (P : Int → Prop) (v : Int) : Prop := (v = farC ∧ ∀ c, ¬ P c) ∨ (v < farC ∧ P v ∧ ∀ c, P c → v ≤ c)
/-- Costs are small. -/
def Small (cs : CS) (n : Nat) : Prop := ∀ a b, a < b → b ≤ n → (cs a b).2 = 0 → 0 ≤ (cs a b).1 ∧ (cs a b).1 ≤ 6000000
section
variable {cs : CS} {n k : Nat}
theorem Way.mono {k' b : Nat} {c : Int} (h : Way cs k b c) (hk : k ≤ k') : Way cs k' b c := by
  induction h with
  | nil => exact .nil
  | page _ h1 h2 h3 ih => exact .page ih h1 (by omega) h3
/-- A way to b goes only over places before b. -/
theorem Way.own {b : Nat} {c : Int} (h : Way cs k b c) : Way cs b b c := by
  induction h with
  | nil => exact .nil
  | page _ h1 _ h3 ih => exact .page (ih.mono (by omega)) h1 h1 h3
theorem Way.bd (hs : Small cs n) {b : Nat} {c : Int} (h : Way cs k b c) (hb : b ≤ n) : 0 ≤ c ∧ c ≤ b * 6000000 := by
  induction h with
  | nil => omega
  | @page a b c h0 h1 _ h3 ih =>
    have h4 := ih (by omega)
    have h5 := hs a b h1 hb h3
    omega
theorem Way.split {b : Nat} {c : Int} (h : Way cs (k + 1) b c) (hkb : k < b) : Way cs k b c ∨ ∃ c', Way cs k k c' ∧ (cs k b).2 = 0 ∧ c = c' + (cs k b).1 := by
  cases h with
  | nil => omega
  | @page a b c h0 h1 h2 h3 =>
    by_cases e : a = k
    · subst e; exact .inr ⟨c, h0.own, h3, rfl⟩
    · exact .inl (.page (h0.own.mono (by omega)) h1 (by omega) h3)
theorem Way.keep {b : Nat} {c : Int} (h : Way cs (k + 1) b c) (hkb : b ≤ k) : Way cs k b c := h.own.mono hkb
end
/-- What the labels are behind the places before k. -/
structure Inv (cs : CS) (n k : Nat) (s : LB) : Prop where
  len : s.lab.length = n + 1
  len2 : s.bef.length = n + 1
  least : ∀ j, j ≤ n → Least (Way cs k j) (s.lab.getD j 0)
  back : ∀ j, 0 < j → j ≤ n → s.lab.getD j 0 ≠ farC → ∃ a : Nat, s.bef.getD j 0 = (a : Int) ∧ a < j ∧ a < k ∧ (cs a j).2 = 0 ∧ s.lab.getD a 0 ≠ farC ∧ s.lab.getD a 0 + (cs a j).1 = s.lab.getD j 0
  zero : ∀ j, j ≤ n → ∃ a : Nat, s.bef.getD j 0 = (a : Int) ∧ a ≤ n
theorem getD_set_eq {l : List Int} {i : Nat} (h : i < l.length) (v : Int) : (l.set i v).getD i 0 = v := by
  rw [List.getD_eq_getElem?_getD, List.getElem?_set_self h]; rfl
theorem getD_set_ne {l : List Int} {i j : Nat} (h : i ≠ j) (v : Int) : (l.set i v).getD j 0 = l.getD j 0 := by
  rw [List.getD_eq_getElem?_getD, List.getD_eq_getElem?_getD, List.getElem?_set_ne h]
theorem getD_rep {n j : Nat} {v : Int} (h : j < n) : (List.replicate n v).getD j 0 = v := by
  rw [List.getD_eq_getElem?_getD, List.getElem?_replicate, if_pos h]; rfl
theorem inv_zero (cs : CS) (n : Nat) : Inv cs n 0 (allB cs n 0) := by
  refine ⟨by simp [allB], by simp [allB], fun j hj => ?_, fun j h0 hj hne => ?_, fun j hj => ⟨0, ?_, by omega⟩⟩
  · match j with
    | 0 =>
      refine .inr ⟨show (0 : Int) < farC by decide, .nil, fun c h => ?_⟩
      cases h with
      | nil => exact Int.le_refl _
      | page _ _ h2 _ => omega
    | j + 1 =>
      refine .inl ⟨?_, fun c h => ?_⟩
      · show (List.replicate n farC).getD j 0 = farC
        exact getD_rep (by omega)
      · cases h with
        | page _ _ h2 _ => omega
  · exfalso
    match j with
    | j + 1 => exact hne (by show (List.replicate n farC).getD j 0 = farC; exact getD_rep (by omega))
  · exact getD_rep (by omega)
/-- The middle of a round: pages from k up to k + m are looked at. -/
structure Mid (cs : CS) (n k m : Nat) (s : LB) : Prop where
  len : s.lab.length = n + 1
  len2 : s.bef.length = n + 1
  low : ∀ j, j ≤ k + m → j ≤ n → Least (Way cs (k + 1) j) (s.lab.getD j 0)
  high : ∀ j, k + m < j → j ≤ n → Least (Way cs k j) (s.lab.getD j 0)
  back : ∀ j, 0 < j → j ≤ n → s.lab.getD j 0 ≠ farC → ∃ a : Nat, s.bef.getD j 0 = (a : Int) ∧ a < j ∧ a < k + 1 ∧ (cs a j).2 = 0 ∧ s.lab.getD a 0 ≠ farC ∧ s.lab.getD a 0 + (cs a j).1 = s.lab.getD j 0
  zero : ∀ j, j ≤ n → ∃ a : Nat, s.bef.getD j 0 = (a : Int) ∧ a ≤ n
theorem Least.congr {P Q : Int → Prop} {v : Int} (h : Least P v) (hpq : ∀ c, P c ↔ Q c) : Least Q v := by
  rcases h with ⟨h1, h2⟩ | ⟨h1, h2, h3⟩
  · exact .inl ⟨h1, fun c hc => h2 c ((hpq c).2 hc)⟩
  · exact .inr ⟨h1, (hpq v).1 h2, fun c hc => h3 c ((hpq c).2 hc)⟩
theorem Inv.mid {cs : CS} {n k : Nat} {s : LB} (h : Inv cs n k s) : Mid cs n k 0 s where
  len := h.len
  len2 := h.len2
  low := fun j hj hn => (h.least j hn).congr fun _ => ⟨fun w => w.mono (by omega), fun w => w.keep (by omega)⟩
  high := fun j _ hn => h.least j hn
  back := fun j h0 hn hne => by obtain ⟨a, h1, h2, h3, h4⟩ := h.back j h0 hn hne; exact ⟨a, h1, h2, by omega, h4⟩
  zero := h.zero
theorem Mid.next {cs : CS} {n k m : Nat} {s : LB} (hs : Small cs n) (hn2 : n ≤ 200) (h : Mid cs n k m s) (hm : k + m + 1 ≤ n) (hfar : s.lab.getD k 0 ≠ farC) : Mid cs n k (m + 1) (stepB cs k (k + m + 1) s) := by
  have hk := h.low k (by omega) (by omega)
  have hj := h.high (k + m + 1) (by omega) hm
  rcases hk with ⟨hk1, _⟩ | ⟨hk1, hk2, hk3⟩
  · exact absurd hk1 hfar
  have hkk : Way cs k k (s.lab.getD k 0) := hk2.keep (Nat.le_refl _)
  have hkb := hkk.bd hs (by omega)
  unfold stepB
  by_cases hc : (cs k (k + m + 1)).2 = 0 ∧ s.lab.getD k 0 + (cs k (k + m + 1)).1 < s.lab.getD (k + m + 1) 0
  · rw [if_pos hc]
    obtain ⟨hc1, hc2⟩ := hc
    have hcb := hs k (k + m + 1) (by omega) hm hc1
    have hsm : s.lab.getD k 0 + (cs k (k + m + 1)).1 < farC := by unfold farC; omega
    refine ⟨by rw [List.length_set]; exact h.len, by rw [List.length_set]; exact h.len2, fun j hj1 hj2 => ?_, fun j hj1 hj2 => ?_, fun j h0 hj2 hne => ?_, fun j hj2 => ?_⟩
    · by_cases e : j = k + m + 1
      · subst e
        simp only
        rw [getD_set_eq (by rw [h.len]; omega)]
        refine .inr ⟨hsm, .page (hkk.mono (by omega)) (by omega) (by omega) hc1, fun c w => ?_⟩
        rcases w.split (by omega) with w1 | ⟨c', w1, _, rfl⟩
        · rcases hj with ⟨_, hj2⟩ | ⟨_, _, hj3⟩
          · exact absurd w1 (hj2 c)
          · have := hj3 c w1; omega
        · have := hk3 c' (w1.mono (by omega)); omega
      · simp only
        rw [getD_set_ne (by omega)]
        exact h.low j (by omega) hj2
    · simp only
      rw [getD_set_ne (by omega)]
      exact h.high j (by omega) hj2
    · simp only at hne ⊢
      by_cases e : j = k + m + 1
      · subst e
        refine ⟨k, getD_set_eq (by rw [h.len2]; omega) _, by omega, by omega, hc1, ?_, ?_⟩
        · rw [getD_set_ne (by omega)]; exact hfar
        · rw [getD_set_ne (by omega), getD_set_eq (by rw [h.len]; omega)]
      · rw [getD_set_ne (by omega)] at hne
        obtain ⟨a, h1, h2, h3, h4, h5, h6⟩ := h.back j h0 hj2 hne
        refine ⟨a, by rw [getD_set_ne (by omega)]; exact h1, h2, h3, h4, ?_, ?_⟩
        · rw [getD_set_ne (by omega)]; exact h5
        · rw [getD_set_ne (by omega), getD_set_ne (by omega)]; exact h6
    · simp only
      by_cases e : j = k + m + 1
      · subst e; exact ⟨k, getD_set_eq (by rw [h.len2]; omega) _, by omega⟩
      · rw [getD_set_ne (by omega)]; exact h.zero j hj2
  · rw [if_neg hc]
    refine ⟨h.len, h.len2, fun j hj1 hj2 => ?_, fun j hj1 hj2 => h.high j (by omega) hj2, h.back, h.zero⟩
    by_cases e : j = k + m + 1
    · subst e
      rcases hj with ⟨hj1, hj3⟩ | ⟨hj1, hj3, hj4⟩
      · refine .inl ⟨hj1, fun c w => ?_⟩
        rcases w.split (by omega) with w1 | ⟨c', w1, hz, rfl⟩
        · exact hj3 c w1
        · refine hc ⟨hz, ?_⟩
          have hcb := hs k (k + m + 1) (by omega) hm hz
          rw [hj1]; unfold farC; omega
      · refine .inr ⟨hj1, hj3.mono (by omega), fun c w => ?_⟩
        rcases w.split (by omega) with w1 | ⟨c', w1, hz, rfl⟩
        · exact hj4 c w1
        · have h7 := hk3 c' (w1.mono (by omega))
          have : ¬ (s.lab.getD k 0 + (cs k (k + m + 1)).1 < s.lab.getD (k + m + 1) 0) := fun h8 => hc ⟨hz, h8⟩
          omega
    · exact h.low j (by omega) hj2
theorem stepB_keep (cs : CS) (a b : Nat) (s : LB) (j : Nat) (h : j < b) : (stepB cs a b s).lab.getD j 0 = s.lab.getD j 0 := by
  unfold stepB
  split
  · exact getD_set_ne (by omega) _
  · rfl
theorem rowB_keep (cs : CS) (a : Nat) (s : LB) (j : Nat) (h : j ≤ a) : ∀ m, (rowB cs a s m).lab.getD j 0 = s.lab.getD j 0
  | 0 => rfl
  | m + 1 => by rw [rowB, stepB_keep cs a _ _ j (by omega), rowB_keep cs a s j h m]
theorem Inv.row {cs : CS} {n k : Nat} {s : LB} (hs : Small cs n) (hn2 : n ≤ 200) (h : Inv cs n k s) (hfar : s.lab.getD k 0 ≠ farC) : ∀ m, k + m ≤ n → Mid cs n k m (rowB cs k s m)
  | 0, _ => h.mid
  | m + 1, hm => (Inv.row hs hn2 h hfar m (by omega)).next hs hn2 (by omega) (by rw [rowB_keep cs k s k (Nat.le_refl _) m]; exact hfar)
theorem Inv.next {cs : CS} {n k : Nat} (hs : Small cs n) (hn2 : n ≤ 200) (h : Inv cs n k (allB cs n k)) (hk : k < n) : Inv cs n (k + 1) (allB cs n (k + 1)) := by
  rw [allB]
  by_cases hfar : (allB cs n k).lab.getD k 0 = farC
  · rw [if_pos hfar]
    have hno : ∀ c, ¬ Way cs k k c := by
      rcases h.least k (by omega) with ⟨_, h1⟩ | ⟨h1, _⟩
      · exact h1
      · omega
    refine ⟨h.len, h.len2, fun j hj => (h.least j hj).congr fun c => ⟨fun w => w.mono (by omega), fun w => ?_⟩, fun j h0 hj hne => ?_, h.zero⟩
    · by_cases hjk : j ≤ k
      · exact w.keep hjk
      · rcases w.split (by omega) with w1 | ⟨c', w1, _⟩
        · exact w1
        · exact absurd w1 (hno c')
    · obtain ⟨a, h1, h2, h3, h4⟩ := h.back j h0 hj hne
      exact ⟨a, h1, h2, by omega, h4⟩
  · rw [if_neg hfar]
    have hm := h.row hs hn2 hfar (n - k) (by omega)
    exact ⟨hm.len, hm.len2, fun j hj => hm.low j (by omega) hj, hm.back, hm.zero⟩
theorem inv_all {cs : CS} {n : Nat} (hs : Small cs n) (hn2 : n ≤ 200) : ∀ k, k ≤ n → Inv cs n k (allB cs n k)
  | 0, _ => inv_zero cs n
  | k + 1, h => (inv_all hs hn2 k (by omega)).next hs hn2 (by omega)
/-- The breaks from a place on, the last one first. -/
def chainB (bef : List Int) : Nat → Nat → List Int
  | 0, _ => []
  | f + 1, at_ => if at_ = 0 then [] else (at_ : Int) :: chainB bef f (bef.getD at_ 0).toNat
/-- Breaks from a on to e, of cost s. -/
inductive Brk (cs : CS) : Nat → List Int → Int → Nat → Prop
  | nil (a : Nat) : Brk cs a [] 0 a
  | page {a b e : Nat} {l : List Int} {s : Int} : a < b → (cs a b).2 = 0 → Brk cs b l s e → Brk cs a ((b : Int) :: l) ((cs a b).1 + s) e
theorem Brk.snoc {cs : CS} {a b e : Nat} {l : List Int} {s : Int} (h : Brk cs a l s b) (hb : b < e) (hc : (cs b e).2 = 0) : Brk cs a (l ++ [(e : Int)]) (s + (cs b e).1) e := by
  induction h with
  | nil a => simpa using Brk.page hb hc (Brk.nil e)
  | @page a b' e' l s h1 h2 h3 ih =>
    have := Brk.page h1 h2 (ih hb hc)
    rwa [← Int.add_assoc] at this
theorem Brk.le {cs : CS} {a e : Nat} {l : List Int} {s : Int} (h : Brk cs a l s e) : a ≤ e := by
  induction h with
  | nil => exact Nat.le_refl _
  | page h1 _ _ ih => omega
theorem Brk.way {cs : CS} {k a e : Nat} {l : List Int} {s : Int} (h : Brk cs a l s e) (c : Int) (w : Way cs k a c) (he : e ≤ k) : Way cs k e (c + s) := by
  induction h generalizing c with
  | nil => simpa using w
  | @page a b e l s h1 h2 h3 ih =>
    have := ih (c + (cs a b).1) (.page w h1 (by have := h3.le; omega) h2) he
    rwa [Int.add_assoc] at this
theorem chain_brk {cs : CS} {n : Nat} (s : LB) (hb : ∀ j, 0 < j → j ≤ n → s.lab.getD j 0 ≠ farC → ∃ a : Nat, s.bef.getD j 0 = (a : Int) ∧ a < j ∧ (cs a j).2 = 0 ∧ s.lab.getD a 0 ≠ farC ∧ s.lab.getD a 0 + (cs a j).1 = s.lab.getD j 0) (h0 : s.lab.getD 0 0 = 0) :
    ∀ f at_, at_ ≤ f → at_ ≤ n → s.lab.getD at_ 0 ≠ farC → Brk cs 0 (chainB s.bef f at_).reverse (s.lab.getD at_ 0) at_
  | 0, at_, h1, h2, h3 => by obtain rfl : at_ = 0 := by omega
                             rw [h0]; exact .nil 0
  | f + 1, at_, h1, h2, h3 => by
    unfold chainB
    by_cases e : at_ = 0
    · subst e; rw [if_pos rfl, h0]; exact .nil 0
    · rw [if_neg e]
      obtain ⟨a, q1, q2, q3, q4, q5⟩ := hb at_ (by omega) h2 h3
      rw [q1, Int.toNat_natCast, List.reverse_cons, ← q5]
      exact (chain_brk s hb h0 f a (by omega) (by omega) q4).snoc q2 q3
theorem chain_len (bef : List Int) : ∀ f at_, (chainB bef f at_).length ≤ f
  | 0, _ => Nat.le_refl _
  | f + 1, at_ => by
    unfold chainB
    split
    · simp
    · have := chain_len bef f (bef.getD at_ 0).toNat; rw [List.length_cons]; omega
/-- What Best finds: labels, breaks, the least cost; none: farC. -/
theorem best_law {cs : CS} {n : Nat} (hs : Small cs n) (hn2 : n ≤ 200) :
    Least (Way cs n n) ((allB cs n n).lab.getD n 0) ∧ ((allB cs n n).lab.getD n 0 ≠ farC → Brk cs 0 (chainB (allB cs n n).bef n n).reverse ((allB cs n n).lab.getD n 0) n) := by
  have h := inv_all hs hn2 n (Nat.le_refl _)
  refine ⟨h.least n (Nat.le_refl _), fun hne => chain_brk _ (fun j h0 hj hne => ?_) ?_ n n (Nat.le_refl _) (Nat.le_refl _) hne⟩
  · obtain ⟨a, h1, h2, _, h4⟩ := h.back j h0 hj hne
    exact ⟨a, h1, h2, h4⟩
  · rcases h.least 0 (by omega) with ⟨_, h1⟩ | ⟨_, h2, h3⟩
    · exact absurd .nil (h1 0)
    · have h4 := (h2.bd hs (by omega)).1
      have h5 := h3 0 .nil
      omega
/-- Labels that no page beats: no breaks cost less. -/
theorem labels_law {cs : CS} {n : Nat} {lab : List Int} (hl : ∀ a b, a < b → b ≤ n → (cs a b).2 = 0 → lab.getD b 0 ≤ lab.getD a 0 + (cs a b).1) {l : List Int} {s : Int} {a e : Nat} (h : Brk cs a l s e) (he : e ≤ n) : lab.getD e 0 ≤ lab.getD a 0 + s := by
  induction h with
  | nil => omega
  | @page a b e l s h1 h2 h3 ih =>
    have := ih he
    have := hl a b h1 (by have := h3.le; omega) h2
    omega
end Go.Proofs.YtfbdklminljecaaGreatDoor
namespace Go.Proofs.YtfbdklminljecaaGreatDoor
open Go.RowKit

def backR (xs : List IT) (a b : Nat) : Nat := backG xs a b
def frontR (xs : List IT) (a b : Nat) : Nat := frontG xs (backR xs a b) (backR xs a b - a) a
/-- The reference goes from the end first: the same core. -/
theorem core_ref (xs : List IT) (a b : Nat) (h : a ≤ b) : (coreA xs a b < coreB xs a b → frontR xs a b = coreA xs a b ∧ backR xs a b = coreB xs a b) ∧ (¬ coreA xs a b < coreB xs a b → frontR xs a b = backR xs a b) := by
  obtain ⟨p1, p2, p3, p4⟩ := frontG_spec xs b (b - a) a (Nat.le_refl _) h
  obtain ⟨q1, q2, q3, q4⟩ := backG_spec xs (coreA xs a b) b p2
  obtain ⟨r1, r2, r3, r4⟩ := backG_spec xs a b h
  obtain ⟨s1, s2, s3, s4⟩ := frontG_spec xs (backR xs a b) (backR xs a b - a) a (Nat.le_refl _) r1
  change a ≤ coreA xs a b at p1
  change coreA xs a b ≤ b at p2
  change ∀ k, a ≤ k → k < coreA xs a b → _ at p3
  change coreA xs a b < b → _ at p4
  change coreA xs a b ≤ coreB xs a b at q1
  change coreB xs a b ≤ b at q2
  change ∀ k, coreB xs a b ≤ k → k < b → _ at q3
  change coreA xs a b < coreB xs a b → _ at q4
  change a ≤ backR xs a b at r1
  change backR xs a b ≤ b at r2
  change ∀ k, backR xs a b ≤ k → k < b → _ at r3
  change a < backR xs a b → _ at r4
  change a ≤ frontR xs a b at s1
  change frontR xs a b ≤ backR xs a b at s2
  change ∀ k, a ≤ k → k < frontR xs a b → _ at s3
  change frontR xs a b < backR xs a b → _ at s4
  refine ⟨fun hlt => ?_, fun hge => ?_⟩
  · have n1 := q4 hlt
    have e1 : backR xs a b = coreB xs a b := by
      rcases Nat.lt_trichotomy (backR xs a b) (coreB xs a b) with h1 | h1 | h1
      · exact absurd (r3 (coreB xs a b - 1) (by omega) (by omega)) n1
      · exact h1
      · exact absurd (q3 (backR xs a b - 1) (by omega) (by omega)) (r4 (by omega))
    refine ⟨?_, e1⟩
    rcases Nat.lt_trichotomy (frontR xs a b) (coreA xs a b) with h1 | h1 | h1
    · exact absurd (p3 (frontR xs a b) s1 h1) (s4 (by omega))
    · exact h1
    · exact absurd (s3 (coreA xs a b) p1 h1) (p4 (by omega))
  · have e1 : coreA xs a b = b := by
      rcases Nat.lt_or_ge (coreA xs a b) b with h1 | h1
      · exact absurd (q3 (coreA xs a b) (by omega) h1) (p4 h1)
      · omega
    have e2 : backR xs a b = a := by
      rcases Nat.lt_or_ge a (backR xs a b) with h1 | h1
      · exact absurd (p3 (backR xs a b - 1) (by omega) (by omega)) (r4 h1)
      · omega
    omega
/-- A page with no core has only gaps. -/
theorem core_none {xs : List IT} {a b : Nat} (h : a ≤ b) (hge : ¬ coreA xs a b < coreB xs a b) (k : Nat) (h1 : a ≤ k) (h2 : k < b) : (xs.getD k IT.zero).kind = 4 := by
  obtain ⟨p1, p2, p3, p4⟩ := frontG_spec xs b (b - a) a (Nat.le_refl _) h
  obtain ⟨q1, q2, q3, q4⟩ := backG_spec xs (coreA xs a b) b p2
  change coreA xs a b ≤ b at p2
  change ∀ k, a ≤ k → k < coreA xs a b → _ at p3
  change coreA xs a b < b → _ at p4
  change ∀ k, coreB xs a b ≤ k → k < b → _ at q3
  rcases Nat.lt_or_ge (coreA xs a b) b with h3 | h3
  · exact absurd (q3 (coreA xs a b) (by omega) h3) (p4 h3)
  · exact p3 k h1 (by omega)
theorem core_some {xs : List IT} {a b : Nat} (h : a ≤ b) (k : Nat) (h1 : a ≤ k) (h2 : k < b) (hk : (xs.getD k IT.zero).kind ≠ 4) : coreA xs a b < coreB xs a b := by
  by_cases hge : coreA xs a b < coreB xs a b
  · exact hge
  · exact absurd (core_none h hge k h1 h2) hk
/-- Outside of the core are gaps. -/
theorem core_out {xs : List IT} {a b : Nat} (h : a ≤ b) (k : Nat) (h1 : a ≤ k) (h2 : k < b) (hk : k < coreA xs a b ∨ coreB xs a b ≤ k) : (xs.getD k IT.zero).kind = 4 := by
  obtain ⟨p1, p2, p3, p4⟩ := frontG_spec xs b (b - a) a (Nat.le_refl _) h
  obtain ⟨q1, q2, q3, q4⟩ := backG_spec xs (coreA xs a b) b p2
  rcases hk with hk | hk
  · exact p3 k h1 hk
  · exact q3 k hk h2
theorem core_first {xs : List IT} {a b : Nat} (h : a ≤ b) (hlt : coreA xs a b < coreB xs a b) : (xs.getD (coreA xs a b) IT.zero).kind ≠ 4 ∧ (xs.getD (coreB xs a b - 1) IT.zero).kind ≠ 4 := by
  obtain ⟨p1, p2, p3, p4⟩ := frontG_spec xs b (b - a) a (Nat.le_refl _) h
  obtain ⟨q1, q2, q3, q4⟩ := backG_spec xs (coreA xs a b) b p2
  exact ⟨p4 (Nat.lt_of_lt_of_le hlt q2), q4 hlt⟩

theorem sq_bd {d : Int} (h : 0 ≤ d ∧ d ≤ 2000) : 0 ≤ d * d ∧ d * d ≤ 4000000 := mul_bd h h
theorem cost_small {g : GT} (hr : RightG g) {r : QT} (hq : chkQ r = 0) : Small (costR g r) g.items.length := by
  intro a b hab hb hz
  have hu := usesR_bd hr hq a b (by omega) hb
  obtain ⟨⟨h1, h2⟩, h3, h4, h5⟩ := chkQ_zero hq
  unfold costR at hz ⊢
  by_cases c1 : coreB g.items a b ≤ coreA g.items a b
  · rw [if_pos c1] at hz; exact absurd hz (by decide)
  rw [if_neg c1] at hz ⊢
  by_cases c2 : r.height - usesR g r a b < 0
  · rw [if_pos c2] at hz; exact absurd hz (by decide)
  rw [if_neg c2] at hz ⊢
  by_cases c3 : (g.items.getD (coreB g.items a b - 1) IT.zero).kind = 2 ∧ b ≠ g.items.length
  · rw [if_pos c3] at hz; exact absurd hz (by decide)
  rw [if_neg c3] at hz ⊢
  simp only
  have hsq := sq_bd (d := r.height - usesR g r a b) (by omega)
  generalize (r.height - usesR g r a b) * (r.height - usesR g r a b) = sq at *
  split <;> split <;> split <;> omega
theorem cost_fits {g : GT} {r : QT} {a b : Nat} (hz : (costR g r a b).2 = 0) : coreA g.items a b < coreB g.items a b ∧ usesR g r a b ≤ r.height := by
  unfold costR at hz
  by_cases c1 : coreB g.items a b ≤ coreA g.items a b
  · rw [if_pos c1] at hz; exact absurd hz (by decide)
  rw [if_neg c1] at hz
  by_cases c2 : r.height - usesR g r a b < 0
  · rw [if_pos c2] at hz; exact absurd hz (by decide)
  omega
/-- With a core, the cost is refused for its height just if it uses too much. -/
theorem cost_break {g : GT} {r : QT} {a b : Nat} (hc : coreA g.items a b < coreB g.items a b) : (costR g r a b).2 = 26 ↔ r.height < usesR g r a b := by
  unfold costR
  rw [if_neg (by omega)]
  by_cases c2 : r.height - usesR g r a b < 0
  · rw [if_pos c2]; exact ⟨fun _ => by omega, fun _ => rfl⟩
  rw [if_neg c2]
  refine ⟨fun h => ?_, fun h => by omega⟩
  split at h
  · exact absurd (show (15 : Int) = 26 from h) (by decide)
  · exact absurd (show (0 : Int) = 26 from h) (by decide)

/-- Where page i begins. -/
def begG (a : Nat) (l : List Int) (i : Nat) : Nat := if i = 0 then a else (l.getD (i - 1) 0).toNat
theorem Brk.page_at {cs : CS} {a e : Nat} {l : List Int} {s : Int} (h : Brk cs a l s e) : ∀ i, i < l.length → begG a l i < (l.getD i 0).toNat ∧ l.getD i 0 = ((l.getD i 0).toNat : Int) ∧ (l.getD i 0).toNat ≤ e ∧ (cs (begG a l i) (l.getD i 0).toNat).2 = 0 := by
  induction h with
  | nil => intro i hi; exact absurd hi (by simp)
  | @page a b e l s h1 h2 h3 ih =>
    intro i hi
    match i with
    | 0 =>
      show a < ((b : Int)).toNat ∧ (b : Int) = (((b : Int)).toNat : Int) ∧ ((b : Int)).toNat ≤ e ∧ (cs a ((b : Int)).toNat).2 = 0
      rw [Int.toNat_natCast]
      exact ⟨h1, rfl, h3.le, h2⟩
    | i + 1 =>
      have := ih i (by simpa using hi)
      have e1 : begG a ((b : Int) :: l) (i + 1) = begG b l i := by
        unfold begG
        rw [if_neg (by omega)]
        match i with
        | 0 => rw [if_pos rfl]; show ((b : Int)).toNat = b; rw [Int.toNat_natCast]
        | i + 1 => rw [if_neg (by omega)]; rfl
      rw [e1]
      exact this
theorem Brk.ends {cs : CS} {a e : Nat} {l : List Int} {s : Int} (h : Brk cs a l s e) : begG a l l.length = e := by
  induction h with
  | nil => rfl
  | @page a b e l s h1 h2 h3 ih =>
    rw [← ih]
    unfold begG
    rw [if_neg (by simp)]
    match l with
    | [] => show ((b : Int)).toNat = b; rw [Int.toNat_natCast]
    | x :: l => rw [if_neg (by simp)]; rfl
theorem begG_le {cs : CS} {a e : Nat} {l : List Int} {s : Int} (h : Brk cs a l s e) (i : Nat) (hi : i ≤ l.length) : begG a l i ≤ e := by
  by_cases hl : i < l.length
  · have := h.page_at i hl; omega
  · obtain rfl : i = l.length := by omega
    rw [h.ends]; exact Nat.le_refl _
theorem begG_succ (a : Nat) (l : List Int) (i : Nat) : begG a l (i + 1) = (l.getD i 0).toNat := by unfold begG; rw [if_neg (by omega)]; rfl
/-- The costs of the first n pages. -/
def brkSum (cs : CS) (a : Nat) (l : List Int) : Nat → Int
  | 0 => 0
  | n + 1 => brkSum cs a l n + (cs (begG a l n) (l.getD n 0).toNat).1
theorem brkSum_cons (cs : CS) (a b : Nat) (l : List Int) : ∀ n, brkSum cs a ((b : Int) :: l) (n + 1) = (cs a b).1 + brkSum cs b l n
  | 0 => by
    show 0 + (cs (begG a ((b : Int) :: l) 0) ((b : Int)).toNat).1 = _
    rw [Int.toNat_natCast]
    show 0 + (cs a b).1 = (cs a b).1 + 0
    omega
  | n + 1 => by
    rw [brkSum, brkSum_cons cs a b l n, brkSum]
    have e1 : begG a ((b : Int) :: l) (n + 1) = begG b l n := by
      unfold begG
      rw [if_neg (by omega)]
      match n with
      | 0 => rw [if_pos rfl]; show ((b : Int)).toNat = b; rw [Int.toNat_natCast]
      | i + 1 => rw [if_neg (by omega)]; rfl
    rw [e1]
    show _ + (cs (begG b l n) (l.getD n 0).toNat).1 = _
    omega
theorem Brk.total {cs : CS} {a e : Nat} {l : List Int} {s : Int} (h : Brk cs a l s e) : brkSum cs a l l.length = s := by
  induction h with
  | nil => rfl
  | @page a b e l s h1 h2 h3 ih => rw [List.length_cons, brkSum_cons, ih]
theorem Brk.few {cs : CS} {a e : Nat} {l : List Int} {s : Int} (h : Brk cs a l s e) : a + l.length ≤ e := by
  induction h with
  | nil => exact Nat.le_refl _
  | page h1 _ _ ih => simp only [List.length_cons]; omega

theorem notesR_add (xs : List IT) (a m : Nat) : ∀ n, notesR xs a (m + n) = notesR xs a m ++ notesR xs (a + m) n
  | 0 => by show notesR xs a m = _; rw [notesR, List.append_nil]
  | n + 1 => by
    rw [← Nat.add_assoc, notesR, notesR, notesR_add xs a m n, Nat.add_assoc]
    split
    · rw [List.append_assoc]
    · rfl
/-- The notes of a right galley come in their order. -/
def upI : Nat → List Int
  | 0 => []
  | n + 1 => upI n ++ [(n : Int)]
theorem upI_len : ∀ n, (upI n).length = n
  | 0 => rfl
  | n + 1 => by rw [upI, List.length_append, upI_len n]; rfl
theorem upI_at : ∀ n k, k < n → (upI n).getD k 0 = (k : Int)
  | n + 1, k, h => by
    rw [upI, List.getD_eq_getElem?_getD]
    by_cases e : k < n
    · rw [List.getElem?_append_left (by rw [upI_len]; exact e), ← List.getD_eq_getElem?_getD, upI_at n k e]
    · obtain rfl : k = n := by omega
      rw [List.getElem?_append_right (by rw [upI_len]; exact Nat.le_refl _), upI_len, Nat.sub_self]; rfl
theorem errAt_note {n : Nat} {l o c : Int} {x : IT} (h : itemErr n l o c x = 0) : x.note = -1 ∨ (0 ≤ x.note ∧ x.note < n ∧ x.note = c) := by
  have hr := (itemErr_zero h).note
  rcases hr with h1 | h1
  · exact .inl h1
  · refine .inr ⟨h1.1, h1.2, ?_⟩
    unfold itemErr at h
    by_cases c1 : ¬ (1 ≤ x.kind ∧ x.kind ≤ 4)
    · rw [if_pos c1] at h; exact absurd h (by decide)
    rw [if_neg c1] at h
    by_cases c2 : ¬ (1 ≤ x.height ∧ x.height ≤ 2000)
    · rw [if_pos c2] at h; exact absurd h (by decide)
    rw [if_neg c2] at h
    by_cases c3 : (x.kind = 4 ∧ x.note ≠ -1) ∨ (x.kind ≠ 1 ∧ (x.line ≠ 0 ∨ x.many ≠ 0))
    · rw [if_pos c3] at h; exact absurd h (by decide)
    rw [if_neg c3] at h
    by_cases c4 : x.kind ≠ 1 ∧ l < o
    · rw [if_pos c4] at h; exact absurd h (by decide)
    rw [if_neg c4] at h
    by_cases c5 : x.kind = 1 ∧ (x.many < 1 ∨ x.line ≠ (if l < o then l + 1 else 1) ∨ x.many ≠ (if l < o then o else x.many))
    · rw [if_pos c5] at h; exact absurd h (by decide)
    rw [if_neg c5, if_neg (by omega), if_neg (by omega)] at h
    by_cases c6 : x.note ≠ c
    · rw [if_pos c6] at h; exact absurd h (by decide)
    · omega
theorem calls_up {g : GT} (hr : RightG g) : ∀ k, k ≤ g.items.length → ∃ m : Nat, (gsTo g.items k).c = (m : Int) ∧ m ≤ g.notes.length ∧ notesR g.items 0 k = upI m
  | 0, _ => ⟨0, rfl, by omega, rfl⟩
  | k + 1, h => by
    obtain ⟨m, h1, h2, h3⟩ := calls_up hr k (by omega)
    have h4 := errAt_note (hr.clean k (by omega))
    rw [notesR, Nat.zero_add]
    show ∃ m : Nat, ((gsTo g.items k).next (g.items.getD k IT.zero)).c = _ ∧ _
    unfold GS.next
    rw [h1] at h4 ⊢
    generalize g.items.getD k IT.zero = x at *
    simp only
    rcases h4 with h4 | ⟨h4, h5, h6⟩
    · rw [if_pos h4, if_neg (by omega)]; exact ⟨m, rfl, h2, h3⟩
    · rw [if_neg (by omega), if_pos h4, h3, h6]
      exact ⟨m + 1, by omega, by omega, rfl⟩
theorem notes_all {g : GT} (hr : RightG g) : notesR g.items 0 g.items.length = upI g.notes.length := by
  obtain ⟨m, h1, h2, h3⟩ := calls_up hr g.items.length (Nat.le_refl _)
  have := hr.all
  rw [h3]
  congr 1
  omega
end Go.Proofs.YtfbdklminljecaaGreatDoor
namespace Go.Proofs.YtfbdklminljecaaGreatDoor
open Go.RowKit

theorem badH_pred (w : World) : PredI 83 #[] badH w := fun W z _ => by
  show Calls Tryz.prog 83 #[.int .i64 z] W _
  by_cases hz : 1 ≤ z ∧ z ≤ 2000
  · have HB : Hid (badH z = false) := Lib.hid (badH_false.2 hz)
    rw [HB.out]
    go_enter Tryz.func83, Tryz.ntmps83
    go_wp2_with (first | (go_at_call 68; refine Calls.mono (isHeight_yes _ _ ?_) ?_; (omega); rintro e w1 ⟨rfl, rfl⟩) | (go_at_call 68; refine Calls.mono (isHeight_no _ _ ?_) ?_; (omega); rintro e w1 ⟨rfl, rfl⟩))
    go_ret
    exact ⟨rfl, rfl⟩
  · have HB : Hid (badH z = true) := Lib.hid (by rw [← Bool.not_eq_false]; exact fun h => hz (badH_false.1 h))
    rw [HB.out]
    go_enter Tryz.func83, Tryz.ntmps83
    go_wp2_with (first | (go_at_call 68; refine Calls.mono (isHeight_yes _ _ ?_) ?_; (omega); rintro e w1 ⟨rfl, rfl⟩) | (go_at_call 68; refine Calls.mono (isHeight_no _ _ ?_) ?_; (omega); rintro e w1 ⟨rfl, rfl⟩))
    go_ret
    exact ⟨rfl, rfl⟩
def pairGV (p : Int × Int) : Value := .tuple #[.int .i64 p.1, .int .i64 p.2]
/-- What the loop over the items keeps. -/
structure GalS (w : World) (g : GT) (a : GA) (k : Nat) (wr : World) : Prop where
  ext : Ext w wr
  box : Blk wr w.heap.size 49 #[.slice a.A g.items.length a.c, .slice a.B g.notes.length a.d]
  chk : ∃ last : IT, Blk wr (w.heap.size + 1) 146 #[.int .i64 last.kind, .int .i64 last.height, .int .i64 last.note, .int .i64 last.line, .int .i64 last.many, .int .i64 (gsTo g.items k).c, .int .i64 (g.notes.length : Int)] ∧ last.line = (gsTo g.items k).l ∧ last.many = (gsTo g.items k).o
section
variable {w wr w' : World} {g : GT} {a : GA} {k : Nat}
theorem GalS.next (h : GalS w g a k wr) (hx : Ext wr w') : GalS w g a k w' := ⟨h.ext.trans hx, h.box.ext hx, by obtain ⟨l, h1, h2, h3⟩ := h.chk; exact ⟨l, h1.ext hx, h2, h3⟩⟩
theorem gsTo_bd {n : Nat} {xs : List IT} (hn : n ≤ 40) : ∀ k, (∀ j, j < k → (xs.getD j IT.zero).many ≤ 9223372036854775807) → cleanG n xs k → (0 ≤ (gsTo xs k).l ∧ (gsTo xs k).l ≤ (gsTo xs k).o ∧ (gsTo xs k).o ≤ 9223372036854775807) ∧ (0 ≤ (gsTo xs k).c ∧ (gsTo xs k).c ≤ 40)
  | 0, _, _ => by show ((0 : Int) ≤ 0 ∧ (0 : Int) ≤ 0 ∧ (0 : Int) ≤ 9223372036854775807) ∧ ((0 : Int) ≤ 0 ∧ (0 : Int) ≤ 40); decide
  | k + 1, hz, h => by
    obtain ⟨⟨h1, h2, h20⟩, h3, h4⟩ := gsTo_bd hn k (fun j hj => hz j (by omega)) (fun j hj => h j (by omega))
    have hz9 := hz k (by omega)
    have h5 := errAt_note (h k (by omega))
    have h6 : itemErr n (gsTo xs k).l (gsTo xs k).o (gsTo xs k).c (xs.getD k IT.zero) = 0 := h k (by omega)
    show (0 ≤ ((gsTo xs k).next (xs.getD k IT.zero)).l ∧ ((gsTo xs k).next (xs.getD k IT.zero)).l ≤ ((gsTo xs k).next (xs.getD k IT.zero)).o ∧ ((gsTo xs k).next (xs.getD k IT.zero)).o ≤ 9223372036854775807) ∧ (0 ≤ ((gsTo xs k).next (xs.getD k IT.zero)).c ∧ ((gsTo xs k).next (xs.getD k IT.zero)).c ≤ 40)
    unfold GS.next
    generalize gsTo xs k = s at *
    generalize xs.getD k IT.zero = x at *
    simp only
    constructor
    · by_cases hk : x.kind = 1
      · rw [if_pos hk, if_pos hk]
        unfold itemErr at h6
        by_cases c1 : ¬ (1 ≤ x.kind ∧ x.kind ≤ 4)
        · rw [if_pos c1] at h6; exact absurd h6 (by decide)
        rw [if_neg c1] at h6
        by_cases c2 : ¬ (1 ≤ x.height ∧ x.height ≤ 2000)
        · rw [if_pos c2] at h6; exact absurd h6 (by decide)
        rw [if_neg c2] at h6
        by_cases c3 : (x.kind = 4 ∧ x.note ≠ -1) ∨ (x.kind ≠ 1 ∧ (x.line ≠ 0 ∨ x.many ≠ 0))
        · rw [if_pos c3] at h6; exact absurd h6 (by decide)
        rw [if_neg c3] at h6
        by_cases c4 : x.kind ≠ 1 ∧ s.l < s.o
        · rw [if_pos c4] at h6; exact absurd h6 (by decide)
        rw [if_neg c4] at h6
        by_cases c5 : x.kind = 1 ∧ (x.many < 1 ∨ x.line ≠ (if s.l < s.o then s.l + 1 else 1) ∨ x.many ≠ (if s.l < s.o then s.o else x.many))
        · rw [if_pos c5] at h6; exact absurd h6 (by decide)
        have c6 : ¬ (x.many < 1 ∨ x.line ≠ (if s.l < s.o then s.l + 1 else 1) ∨ x.many ≠ (if s.l < s.o then s.o else x.many)) := fun h => c5 ⟨hk, h⟩
        by_cases hs : s.l < s.o
        · rw [if_pos hs, if_pos hs] at c6; omega
        · rw [if_neg hs, if_neg hs] at c6; omega
      · rw [if_neg hk, if_neg hk]; exact ⟨h1, h2, h20⟩
    · split <;> omega
theorem GalS.item (h : GalS w g a k wr) {W w2 : World} (hx : Ext wr W)
    (hb : But [w.heap.size + 1] W w2) {last : IT} (hl1 : last.line = (gsTo g.items k).l) (hl2 : last.many = (gsTo g.items k).o)
    (hblk : Blk w2 (w.heap.size + 1) 146 #[.int .i64 (lastOf last (g.items.getD k IT.zero)).kind, .int .i64 (lastOf last (g.items.getD k IT.zero)).height, .int .i64 (lastOf last (g.items.getD k IT.zero)).note, .int .i64 (lastOf last (g.items.getD k IT.zero)).line, .int .i64 (lastOf last (g.items.getD k IT.zero)).many, .int .i64 (callsOf (gsTo g.items k).c (g.items.getD k IT.zero)), .int .i64 (g.notes.length : Int)]) :
    GalS w g a (k + 1) w2 := by
  refine ⟨But.ext (h.ext.trans hx) hb fun q hq => by rw [List.mem_singleton.1 hq]; omega, (h.box.ext hx).but hb (fun e => by have := List.mem_singleton.1 e; omega), _, hblk, ?_, ?_⟩
  · show (lastOf last (g.items.getD k IT.zero)).line = ((gsTo g.items k).next (g.items.getD k IT.zero)).l
    unfold lastOf GS.next
    split
    · rfl
    · exact hl1
  · show (lastOf last (g.items.getD k IT.zero)).many = ((gsTo g.items k).next (g.items.getD k IT.zero)).o
    unfold lastOf GS.next
    split
    · rfl
    · exact hl2
theorem RP.at (h : RP wr a.A g.items.length g.items) (hk : k < g.items.length) : ∃ b off, a.A = some ⟨b, off, none⟩ ∧ b < wr.heap.size ∧
    wr.cell? ⟨b, off + k * 5, none⟩ = some (.int .i64 (g.items.getD k IT.zero).kind) ∧ wr.cell? ⟨b, off + k * 5 + 1, none⟩ = some (.int .i64 (g.items.getD k IT.zero).height) ∧
    wr.cell? ⟨b, off + k * 5 + 2, none⟩ = some (.int .i64 (g.items.getD k IT.zero).note) ∧ wr.cell? ⟨b, off + k * 5 + 3, none⟩ = some (.int .i64 (g.items.getD k IT.zero).line) ∧
    wr.cell? ⟨b, off + k * 5 + 4, none⟩ = some (.int .i64 (g.items.getD k IT.zero).many) := by
  obtain ⟨b, off, h1, h2, h3⟩ := h.2.2 (by omega)
  exact ⟨b, off, h1, h2, h3 k hk⟩
end
set_option maxRecDepth 100000 in
set_option maxHeartbeats 8000000 in
theorem checkGalley_any (g : GT) (a : GA) (w : World) (hg : GR w a g) : Calls Tryz.prog 67 #[g.val a] w (Ret (pairGV (chkG g)) w) := by
  have HE : Hid (chkG g = if 200 < g.items.length ∨ 40 < g.notes.length then (0, 8) else if (idxOf badH g.notes g.notes.length).isSome = true then (0, 2)
    else match firstG g.notes.length g.items g.items.length with
      | some k => ((k : Int), errAt g.notes.length g.items k)
      | none => if (gsTo g.items g.items.length).l < (gsTo g.items g.items.length).o then (0, 25) else if (gsTo g.items g.items.length).c < (g.notes.length : Int) then (0, 14) else (0, 0)) := Lib.hid rfl
  have HV : Hid (pairGV (chkG g) = .tuple #[.int .i64 (chkG g).1, .int .i64 (chkG g).2]) := Lib.hid rfl
  generalize pairGV (chkG g) = V at *
  generalize chkG g = r at *
  have cC := fun W h => containsFunc_any 83 #[] (fun _ _ => by kernel_rfl) badH a.B g.notes.length a.d g.notes W h (badH_pred W)
  have hb1 := hg.rp.2.1
  have hb2 := hg.ri.big
  have HG := Lib.hid hg; clear hg
  by_cases h1 : 200 < g.items.length
  case pos =>
    have HR : Hid (r = (0, 8)) := Lib.hid (by rw [HE.out, if_pos (.inl h1)])
    have i1 : (200 : Int) < (g.items.length : Int) := by omega
    clear h1 cC
    unfold GT.val
    go_enter Tryz.func67, Tryz.ntmps67
    go_wp2
    go_ret2
    exact Ret.mk' (by rw [HV.out, HR.out]; rfl) (by repeat (first | exact Ext.refl _ | assumption | refine Ext.alloc ?_ _ | refine Ext.drew ?_ | refine Ext.drewN ?_ _ | (refine Ext.setCell ?_ (by simp <;> omega) _) | refine Ext.trans ?_ (by assumption)))
  case neg =>
  have i1 : ¬ (200 : Int) < (g.items.length : Int) := by omega
  by_cases h2 : 40 < g.notes.length
  case pos =>
    have HR : Hid (r = (0, 8)) := Lib.hid (by rw [HE.out, if_pos (.inr h2)])
    have i2 : (40 : Int) < (g.notes.length : Int) := by omega
    clear h1 h2 cC
    unfold GT.val
    go_enter Tryz.func67, Tryz.ntmps67
    go_wp2
    go_ret2
    exact Ret.mk' (by rw [HV.out, HR.out]; rfl) (by repeat (first | exact Ext.refl _ | assumption | refine Ext.alloc ?_ _ | refine Ext.drew ?_ | refine Ext.drewN ?_ _ | (refine Ext.setCell ?_ (by simp <;> omega) _) | refine Ext.trans ?_ (by assumption)))
  case neg =>
  have i2 : ¬ (40 : Int) < (g.notes.length : Int) := by omega
  by_cases h3 : (idxOf badH g.notes g.notes.length).isSome = true
  case pos =>
    have HR : Hid (r = (0, 2)) := Lib.hid (by rw [HE.out, if_neg (by omega), if_pos h3])
    rw [h3] at cC
    have CC := Lib.hid cC
    clear h1 h2 h3 cC
    unfold GT.val
    go_enter Tryz.func67, Tryz.ntmps67
    go_wp2_with (first | (go_at_call 64; refine Calls.mono (CC.out _ ?_) ?_; (exact HG.out.ri.ext (by repeat (first | exact Ext.refl _ | assumption | refine Ext.alloc ?_ _ | refine Ext.drew ?_ | refine Ext.drewN ?_ _ | (refine Ext.setCell ?_ (by simp <;> omega) _) | refine Ext.trans ?_ (by assumption)))); rintro e w1 ⟨rfl, rfl⟩))
    go_ret2
    exact Ret.mk' (by rw [HV.out, HR.out]; rfl) (by repeat (first | exact Ext.refl _ | assumption | refine Ext.alloc ?_ _ | refine Ext.drew ?_ | refine Ext.drewN ?_ _ | (refine Ext.setCell ?_ (by simp <;> omega) _) | refine Ext.trans ?_ (by assumption)))
  case neg =>
  have h3' : (idxOf badH g.notes g.notes.length).isSome = false := by simpa using h3
  rw [h3'] at cC
  have CC := Lib.hid cC
  have HE2 : Hid (r = match firstG g.notes.length g.items g.items.length with
      | some k => ((k : Int), errAt g.notes.length g.items k)
      | none => if (gsTo g.items g.items.length).l < (gsTo g.items g.items.length).o then (0, 25) else if (gsTo g.items g.items.length).c < (g.notes.length : Int) then (0, 14) else (0, 0)) := Lib.hid (by rw [HE.out, if_neg (by omega), if_neg h3])
  have HBD := Lib.hid (fun (k : Nat) (hk : k ≤ g.items.length) hc => gsTo_bd (n := g.notes.length) (xs := g.items) (by omega) k (fun j hj => by have := (HG.out.sz j (by omega : j < g.items.length)).2.2.2.2; unfold I64 at this; omega) hc)
  have HFS : Hid (∀ k, cleanG g.notes.length g.items k → k < g.items.length → errAt g.notes.length g.items k ≠ 0 → firstG g.notes.length g.items g.items.length = some k) := Lib.hid fun k h1 h2 h3 => firstG_some h1 h2 h3
  have HFN : Hid (cleanG g.notes.length g.items g.items.length → firstG g.notes.length g.items g.items.length = none) := Lib.hid fun h => firstG_none h
  have HNL : Hid (g.notes.length ≤ 40) := Lib.hid (by omega)
  have hnl2 : (g.notes.length : Int) ≤ 40 := by omega
  clear h1 h2 h3 h3' cC HE
  unfold GT.val
  go_enter Tryz.func67, Tryz.ntmps67
  go_wp2_with (first | (go_at_call 64; refine Calls.mono (CC.out _ ?_) ?_; (exact HG.out.ri.ext (by repeat (first | exact Ext.refl _ | assumption | refine Ext.alloc ?_ _ | refine Ext.drew ?_ | refine Ext.drewN ?_ _ | (refine Ext.setCell ?_ (by simp <;> omega) _) | refine Ext.trans ?_ (by assumption)))); rintro e w1 ⟨rfl, rfl⟩))
  go_loopw [28] (fun i wr => ∃ k : Nat, k ≤ g.items.length ∧ i = .int .i64 k ∧ cleanG g.notes.length g.items k ∧ GalS w g a k wr) (fun i _ => g.items.length - (intOf i).toNat)
  case atStart => exact ⟨0, Nat.zero_le _, rfl, fun j hj => absurd hj (by omega), ⟨(by repeat (first | exact Ext.refl _ | assumption | refine Ext.alloc ?_ _ | refine Ext.drew ?_ | refine Ext.drewN ?_ _ | (refine Ext.setCell ?_ (by simp <;> omega) _) | refine Ext.trans ?_ (by assumption))), (Blk.new _ _ _).alloc _, ⟨IT.zero, Blk.new1 _ _ _ _, rfl, rfl⟩⟩⟩
  case round =>
    obtain ⟨k, hk, rfl, hcl, hS⟩ := hrel
    have HS := Lib.hid hS
    have HCL := Lib.hid hcl
    obtain ⟨last, hbk, hl1, hl2⟩ := hS.chk
    have hbox := hS.box
    have g0 := hbox.cell 0 _ rfl
    have g1 := hbox.cell 1 _ rfl
    have q5 := hbk.cell 5 _ rfl
    have hsz := hbk.lt
    have hbd := HBD.out k hk hcl
    by_cases hlt : k < g.items.length
    case pos =>
      obtain ⟨b, off, hA, hbw, c0, c1, c2, c3, c4⟩ := (HG.out.rp.ext hS.ext).at hlt
      have HI : Hid (errAt g.notes.length g.items k = itemErr g.notes.length (gsTo g.items k).l (gsTo g.items k).o (gsTo g.items k).c (g.items.getD k IT.zero)) := Lib.hid rfl
      have cI := fun W h => item_any (w.heap.size + 1) (gsTo g.items k).c g.notes.length last (g.items.getD k IT.zero) W h (by rw [hl1, hl2]; omega) (by omega) (by have := HNL.out; omega)
      have HIT : Hid (∀ (W w2 : World), Ext wr W → But [w.heap.size + 1] W w2 →
        Blk w2 (w.heap.size + 1) 146 #[.int .i64 (lastOf last (g.items.getD k IT.zero)).kind, .int .i64 (lastOf last (g.items.getD k IT.zero)).height, .int .i64 (lastOf last (g.items.getD k IT.zero)).note, .int .i64 (lastOf last (g.items.getD k IT.zero)).line, .int .i64 (lastOf last (g.items.getD k IT.zero)).many, .int .i64 (callsOf (gsTo g.items k).c (g.items.getD k IT.zero)), .int .i64 (g.notes.length : Int)] → GalS w g a (k + 1) w2) := Lib.hid fun W w2 hx hb hblk => hS.item hx hb hl1 hl2 hblk
      rw [hl1, hl2, ← HI.out] at cI
      have HBK : Hid (Blk wr (w.heap.size + 1) 146 #[.int .i64 last.kind, .int .i64 last.height, .int .i64 last.note, .int .i64 (gsTo g.items k).l, .int .i64 (gsTo g.items k).o, .int .i64 (gsTo g.items k).c, .int .i64 (g.notes.length : Int)]) := Lib.hid (by rw [← hl1, ← hl2]; exact hbk)
      have HBD2 := Lib.hid hbd
      have hki : (k : Int) < (g.items.length : Int) := by omega
      clear hcl hS hbox hbd HI hl1 hl2 hbk
      generalize lastOf last (g.items.getD k IT.zero) = la at *
      generalize callsOf (gsTo g.items k).c (g.items.getD k IT.zero) = cn at *
      generalize hez9 : errAt g.notes.length g.items k = ez at *
      have HEZ := Lib.hid hez9; clear hez9
      generalize hxx : g.items.getD k IT.zero = x at *
      clear hxx
      obtain ⟨xk, xh, xn, xl, xm⟩ := x
      unfold IT.val at cI
      simp only at cI c0 c1 c2 c3 c4
      have CI := Lib.hid cI; clear cI
      rw [hA] at g0 ⊢
      by_cases hez : ez = 0
      · subst hez
        go_wp2_with (first | (go_at_call 84; refine Calls.mono (CI.out _ ?_) ?_; (exact HBK.out.ext (by repeat (first | exact Ext.refl _ | assumption | refine Ext.alloc ?_ _ | refine Ext.drew ?_ | refine Ext.drewN ?_ _ | (refine Ext.setCell ?_ (by simp <;> omega) _) | refine Ext.trans ?_ (by assumption)))); rintro e w2 ⟨rfl, hbut, hblk⟩; have HS2 := Lib.hid (HIT.out _ w2 (by repeat (first | exact Ext.refl _ | assumption | refine Ext.alloc ?_ _ | refine Ext.drew ?_ | refine Ext.drewN ?_ _ | (refine Ext.setCell ?_ (by simp <;> omega) _) | refine Ext.trans ?_ (by assumption))) hbut (hblk rfl)); clear hbut hblk))
        go_roundw
        case rel => exact ⟨k + 1, by omega, by go_num, cleanG_succ HCL.out HEZ.out, HS2.out.next (by repeat (first | exact Ext.refl _ | assumption | refine Ext.alloc ?_ _ | refine Ext.drew ?_ | refine Ext.drewN ?_ _ | (refine Ext.setCell ?_ (by simp <;> omega) _) | refine Ext.trans ?_ (by assumption)))⟩
        case measure => simp [intOf]; omega
      · have e0 : (ez != 0) = true := by simpa using hez
        have HZ := Lib.hid hez; clear hez
        go_wp2_with (first | (go_at_call 84; refine Calls.mono (CI.out _ ?_) ?_; (exact HBK.out.ext (by repeat (first | exact Ext.refl _ | assumption | refine Ext.alloc ?_ _ | refine Ext.drew ?_ | refine Ext.drewN ?_ _ | (refine Ext.setCell ?_ (by simp <;> omega) _) | refine Ext.trans ?_ (by assumption)))); rintro e w2 ⟨rfl, hbut, hblk⟩; have HX2 := Lib.hid (But.ext (HS.out.ext.trans (by repeat (first | exact Ext.refl _ | assumption | refine Ext.alloc ?_ _ | refine Ext.drew ?_ | refine Ext.drewN ?_ _ | (refine Ext.setCell ?_ (by simp <;> omega) _) | refine Ext.trans ?_ (by assumption)))) hbut fun q hq => (by rw [List.mem_singleton.1 hq]; omega)); clear hbut hblk))
        go_ret2
        exact Ret.mk' (by rw [HV.out, HE2.out, HFS.out k HCL.out hlt (by rw [HEZ.out]; exact HZ.out)]; simp only; rw [HEZ.out]; rfl) HX2.out
    case neg =>
      obtain rfl : k = g.items.length := by omega
      have HE3 : Hid (r = if (gsTo g.items g.items.length).l < (gsTo g.items g.items.length).o then (0, 25) else if (gsTo g.items g.items.length).c < (g.notes.length : Int) then (0, 14) else (0, 0)) := Lib.hid (by rw [HE2.out, HFN.out hcl])
      have cN := fun W h => inside_any (w.heap.size + 1) last.kind last.height last.note last.line last.many (gsTo g.items g.items.length).c g.notes.length W h
      rw [hl1, hl2] at cN
      have HBK : Hid (Blk wr (w.heap.size + 1) 146 #[.int .i64 last.kind, .int .i64 last.height, .int .i64 last.note, .int .i64 (gsTo g.items g.items.length).l, .int .i64 (gsTo g.items g.items.length).o, .int .i64 (gsTo g.items g.items.length).c, .int .i64 (g.notes.length : Int)]) := Lib.hid (by rw [← hl1, ← hl2]; exact hbk)
      clear hcl hS hbox hbd hl1 hl2 hbk HFS HFN HBD HE2
      generalize (gsTo g.items g.items.length).l = sl at *
      generalize (gsTo g.items g.items.length).o = so at *
      generalize (gsTo g.items g.items.length).c = sc at *
      by_cases d1 : sl < so
      · have HR : Hid (r = (0, 25)) := Lib.hid (by rw [HE3.out, if_pos d1])
        rw [decide_eq_true d1] at cN
        have CN := Lib.hid cN; clear cN d1
        go_wp2_with (first | (go_at_call 85; refine Calls.mono (CN.out _ ?_) ?_; (exact HBK.out.ext (by repeat (first | exact Ext.refl _ | assumption | refine Ext.alloc ?_ _ | refine Ext.drew ?_ | refine Ext.drewN ?_ _ | (refine Ext.setCell ?_ (by simp <;> omega) _) | refine Ext.trans ?_ (by assumption)))); rintro e w2 ⟨rfl, q, rfl⟩))
        go_ret2
        exact Ret.mk' (by rw [HV.out, HR.out]; rfl) (HS.out.ext.trans (by repeat (first | exact Ext.refl _ | assumption | refine Ext.alloc ?_ _ | refine Ext.drew ?_ | refine Ext.drewN ?_ _ | (refine Ext.setCell ?_ (by simp <;> omega) _) | refine Ext.trans ?_ (by assumption))))
      · have HNE := Lib.hid d1
        rw [decide_eq_false d1] at cN
        have CN := Lib.hid cN; clear cN d1
        by_cases d2 : sc < (g.notes.length : Int)
        · have HR : Hid (r = (0, 14)) := Lib.hid (by rw [HE3.out, if_neg HNE.out, if_pos d2])
          go_wp2_with (first | (go_at_call 85; refine Calls.mono (CN.out _ ?_) ?_; (exact HBK.out.ext (by repeat (first | exact Ext.refl _ | assumption | refine Ext.alloc ?_ _ | refine Ext.drew ?_ | refine Ext.drewN ?_ _ | (refine Ext.setCell ?_ (by simp <;> omega) _) | refine Ext.trans ?_ (by assumption)))); rintro e w2 ⟨rfl, q, rfl⟩))
          go_ret2
          exact Ret.mk' (by rw [HV.out, HR.out]; rfl) (HS.out.ext.trans (by repeat (first | exact Ext.refl _ | assumption | refine Ext.alloc ?_ _ | refine Ext.drew ?_ | refine Ext.drewN ?_ _ | (refine Ext.setCell ?_ (by simp <;> omega) _) | refine Ext.trans ?_ (by assumption))))
        · have HR : Hid (r = (0, 0)) := Lib.hid (by rw [HE3.out, if_neg HNE.out, if_neg d2])
          go_wp2_with (first | (go_at_call 85; refine Calls.mono (CN.out _ ?_) ?_; (exact HBK.out.ext (by repeat (first | exact Ext.refl _ | assumption | refine Ext.alloc ?_ _ | refine Ext.drew ?_ | refine Ext.drewN ?_ _ | (refine Ext.setCell ?_ (by simp <;> omega) _) | refine Ext.trans ?_ (by assumption)))); rintro e w2 ⟨rfl, q, rfl⟩))
          go_ret2
          exact Ret.mk' (by rw [HV.out, HR.out]; rfl) (HS.out.ext.trans (by repeat (first | exact Ext.refl _ | assumption | refine Ext.alloc ?_ _ | refine Ext.drew ?_ | refine Ext.drewN ?_ _ | (refine Ext.setCell ?_ (by simp <;> omega) _) | refine Ext.trans ?_ (by assumption))))
set_option maxHeartbeats 1000000 in
theorem galleyErr_any (g : GT) (a : GA) (w : World) (hg : GR w a g) : Calls Tryz.prog 49 #[g.val a] w (Ret (.int .i64 (chkG g).2) w) := by
  have cG := fun W h => checkGalley_any g a W h
  unfold pairGV at cG
  have HG := Lib.hid hg; clear hg
  generalize (chkG g).1 = n1 at *
  generalize (chkG g).2 = z at *
  unfold GT.val at *
  have CG := Lib.hid cG; clear cG
  go_enter Tryz.func49, Tryz.ntmps49
  go_wp2_with (first | (go_at_call 67; refine Calls.mono (CG.out _ ?_) ?_; (exact HG.out.ext (by repeat (first | exact Ext.refl _ | assumption | refine Ext.alloc ?_ _ | refine Ext.drew ?_ | refine Ext.drewN ?_ _ | (refine Ext.setCell ?_ (by simp <;> omega) _) | refine Ext.trans ?_ (by assumption)))); rintro e w1 ⟨rfl, hb⟩))
  go_ret
  exact Ret.mk' rfl (by repeat (first | exact Ext.refl _ | assumption | refine Ext.alloc ?_ _ | refine Ext.drew ?_ | refine Ext.drewN ?_ _ | (refine Ext.setCell ?_ (by simp <;> omega) _) | refine Ext.trans ?_ (by assumption)))
end Go.Proofs.YtfbdklminljecaaGreatDoor
