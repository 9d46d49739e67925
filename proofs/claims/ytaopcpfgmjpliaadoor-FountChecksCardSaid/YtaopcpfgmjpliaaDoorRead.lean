/-
  Walk: a fount is checked (the program's read and CheckFount).
-/
import Derived.Test.YtaopcpfgmjpliaaDoorAdd
namespace Go.Proofs.YtaopcpfgmjpliaaDoor
open Go.RowKit

def ReadPost (f : FT) (n z : Int) (w : World) (e : Ending) (w' : World) : Prop :=
  ∃ b1 b2, e = .returned (.tuple #[knownV b1 b2, .int .i64 n, .int .i64 z]) ∧ Ext w w' ∧ (z = 0 → KM w' b1 f.sorts.length (lookN f.sorts f.sorts.length) ∧ KM w' b2 f.sorts.length (lookT f.sorts f.sorts.length))
set_option maxHeartbeats 4000000 in
set_option maxRecDepth 100000 in
theorem read_early (f : FT) (A : Option Addr) (c : Nat) (w : World) (hf : FR w A c f) (hbad : nameB f.name = false ∨ ¬ (1 ≤ f.body ∧ f.body ≤ 144) ∨ f.sorts.length = 0 ∨ 120 < f.sorts.length) :
    Calls Tryd.prog 20 #[f.val A c] w (ReadPost f (chk f).1 (chk f).2 w) := by
  obtain ⟨name, body, ss⟩ := f
  have hnm := hf.nm
  have hbig := hf.rt.big
  simp only [FT.val] at *
  by_cases h1 : nameB name = false
  · have HC : Hid (chk ⟨name, body, ss⟩ = (0, 4)) := Lib.hid (by unfold chk; simp [h1])
    rw [HC.out]
    have HN := Lib.hid h1; clear h1 hbad hf
    go_enter Tryd.func20, Tryd.ntmps20
    go_wp2_with (first | (go_at_call 40; refine Calls.mono (newKnown_any _) ?_; rintro e w1 ⟨b1, b2, rfl, hne, l1, l2, k1, k2, hb⟩; unfold knownV; have F1 := ((Blk.new _ _ _).alloc _).ext hb; have R1 := (Blk.new1 _ _ _ _).ext hb; have l1' := k1.lt; have l2' := k2.lt; obtain ⟨f0, f1, f2, fl⟩ := F1.c3; obtain ⟨r0, r1, r2, r3, rl⟩ := R1.c2) | (go_at_call 41; refine Calls.mono (isName_any _ _ hnm) ?_; rw [HN.out]; rintro e w2 ⟨rfl, hb2⟩; have F2 := (F1.alloc _).ext hb2; have R2 := (R1.alloc _).ext hb2; have K2 := (Blk.new _ _ _).ext hb2; obtain ⟨f0', f1', f2', fl'⟩ := F2.c3; obtain ⟨r0', r1', r2', r3', rl'⟩ := R2.c2; obtain ⟨k0', k1', k2', k3', kl'⟩ := K2.c2))
    refine bodyPost_ret (v := .tuple #[knownV b1 b2, .int .i64 0, .int .i64 4]) (by simp [results, Tryd.results20, go_sem, knownV, r0', r1']) rfl ⟨b1, b2, rfl, ?_, fun h => absurd h (by omega)⟩
    exact Ext.setCell (Ext.setCell (Ext.trans (Ext.alloc (Ext.trans (by repeat (first | exact Ext.refl _ | assumption | refine Ext.alloc ?_ _ | refine Ext.drew ?_ | refine Ext.drewN ?_ _ | (refine Ext.setCell ?_ (by simp <;> omega) _) | refine Ext.trans ?_ (by assumption))) hb) _) hb2) (by simp) _) (by simp) _
  have HN : Hid (nameB name = true) := Lib.hid (by simpa using h1)
  have e1 : ¬ nameB name = false := h1
  by_cases hb0 : 1 ≤ body ∧ body ≤ 144
  · rcases (show ss.length = 0 ∨ 120 < ss.length by rcases hbad with h | h | h | h; exact absurd h h1; exact absurd hb0 h; exact .inl h; exact .inr h) with hl | hl
    · have HC : Hid (chk ⟨name, body, ss⟩ = (0, 10)) := Lib.hid (by unfold chk; simp [e1, hb0, hl])
      rw [HC.out]
      clear h1 e1 hbad hf HC
      rw [hl]; clear hl hbig
      go_enter Tryd.func20, Tryd.ntmps20
      go_wp2_with (first | (go_at_call 35; refine Calls.mono (within_yes _ _ _ _ ?_) ?_; (omega); rintro e w1 ⟨rfl, rfl⟩) | (go_at_call 35; refine Calls.mono (within_no _ _ _ _ ?_) ?_; (omega); rintro e w1 ⟨rfl, rfl⟩) | (go_at_call 40; refine Calls.mono (newKnown_any _) ?_; rintro e w1 ⟨b1, b2, rfl, hne, l1, l2, k1, k2, hb⟩; unfold knownV; have F1 := ((Blk.new _ _ _).alloc _).ext hb; have R1 := (Blk.new1 _ _ _ _).ext hb; have l1' := k1.lt; have l2' := k2.lt; obtain ⟨f0, f1, f2, fl⟩ := F1.c3; obtain ⟨r0, r1, r2, r3, rl⟩ := R1.c2) | (go_at_call 41; refine Calls.mono (isName_any _ _ hnm) ?_; rw [HN.out]; rintro e w2 ⟨rfl, hb2⟩; have F2 := (F1.alloc _).ext hb2; have R2 := (R1.alloc _).ext hb2; have K2 := (Blk.new _ _ _).ext hb2; obtain ⟨f0', f1', f2', fl'⟩ := F2.c3; obtain ⟨r0', r1', r2', r3', rl'⟩ := R2.c2; obtain ⟨k0', k1', k2', k3', kl'⟩ := K2.c2))
      refine bodyPost_ret (v := .tuple #[knownV b1 b2, .int .i64 0, .int .i64 10]) (by simp [results, Tryd.results20, go_sem, knownV, r0', r1']) rfl ⟨b1, b2, rfl, ?_, fun h => absurd h (by omega)⟩
      exact Ext.setCell (Ext.setCell (Ext.trans (Ext.alloc (Ext.trans (by repeat (first | exact Ext.refl _ | assumption | refine Ext.alloc ?_ _ | refine Ext.drew ?_ | refine Ext.drewN ?_ _ | (refine Ext.setCell ?_ (by simp <;> omega) _) | refine Ext.trans ?_ (by assumption))) hb) _) hb2) (by simp) _) (by simp) _
    · have HC : Hid (chk ⟨name, body, ss⟩ = (0, 8)) := Lib.hid (by unfold chk; simp only [if_neg e1, if_neg (show ¬ ¬ (1 ≤ body ∧ body ≤ 144) by simpa using hb0), if_neg (show ¬ ss.length = 0 by omega), if_pos hl])
      rw [HC.out]
      have hl1 : (120 : Int) < (ss.length : Int) := by omega
      have hl2 : ((ss.length : Int) == 0) = false := (by rw [beq_eq_false_iff_ne]; omega)
      clear h1 e1 hbad hf HC
      go_enter Tryd.func20, Tryd.ntmps20
      go_wp2_with (first | (go_at_call 35; refine Calls.mono (within_yes _ _ _ _ ?_) ?_; (omega); rintro e w1 ⟨rfl, rfl⟩) | (go_at_call 35; refine Calls.mono (within_no _ _ _ _ ?_) ?_; (omega); rintro e w1 ⟨rfl, rfl⟩) | (go_at_call 40; refine Calls.mono (newKnown_any _) ?_; rintro e w1 ⟨b1, b2, rfl, hne, l1, l2, k1, k2, hb⟩; unfold knownV; have F1 := ((Blk.new _ _ _).alloc _).ext hb; have R1 := (Blk.new1 _ _ _ _).ext hb; have l1' := k1.lt; have l2' := k2.lt; obtain ⟨f0, f1, f2, fl⟩ := F1.c3; obtain ⟨r0, r1, r2, r3, rl⟩ := R1.c2) | (go_at_call 41; refine Calls.mono (isName_any _ _ hnm) ?_; rw [HN.out]; rintro e w2 ⟨rfl, hb2⟩; have F2 := (F1.alloc _).ext hb2; have R2 := (R1.alloc _).ext hb2; have K2 := (Blk.new _ _ _).ext hb2; obtain ⟨f0', f1', f2', fl'⟩ := F2.c3; obtain ⟨r0', r1', r2', r3', rl'⟩ := R2.c2; obtain ⟨k0', k1', k2', k3', kl'⟩ := K2.c2))
      refine bodyPost_ret (v := .tuple #[knownV b1 b2, .int .i64 0, .int .i64 8]) (by simp [results, Tryd.results20, go_sem, knownV, r0', r1']) rfl ⟨b1, b2, rfl, ?_, fun h => absurd h (by omega)⟩
      exact Ext.setCell (Ext.setCell (Ext.trans (Ext.alloc (Ext.trans (by repeat (first | exact Ext.refl _ | assumption | refine Ext.alloc ?_ _ | refine Ext.drew ?_ | refine Ext.drewN ?_ _ | (refine Ext.setCell ?_ (by simp <;> omega) _) | refine Ext.trans ?_ (by assumption))) hb) _) hb2) (by simp) _) (by simp) _
  · have HC : Hid (chk ⟨name, body, ss⟩ = (0, 2)) := Lib.hid (by unfold chk; simp only [if_neg e1, if_pos hb0])
    rw [HC.out]
    clear h1 e1 hbad hf HC
    go_enter Tryd.func20, Tryd.ntmps20
    go_wp2_with (first | (go_at_call 35; refine Calls.mono (within_yes _ _ _ _ ?_) ?_; (omega); rintro e w1 ⟨rfl, rfl⟩) | (go_at_call 35; refine Calls.mono (within_no _ _ _ _ ?_) ?_; (omega); rintro e w1 ⟨rfl, rfl⟩) | (go_at_call 40; refine Calls.mono (newKnown_any _) ?_; rintro e w1 ⟨b1, b2, rfl, hne, l1, l2, k1, k2, hb⟩; unfold knownV; have F1 := ((Blk.new _ _ _).alloc _).ext hb; have R1 := (Blk.new1 _ _ _ _).ext hb; have l1' := k1.lt; have l2' := k2.lt; obtain ⟨f0, f1, f2, fl⟩ := F1.c3; obtain ⟨r0, r1, r2, r3, rl⟩ := R1.c2) | (go_at_call 41; refine Calls.mono (isName_any _ _ hnm) ?_; rw [HN.out]; rintro e w2 ⟨rfl, hb2⟩; have F2 := (F1.alloc _).ext hb2; have R2 := (R1.alloc _).ext hb2; have K2 := (Blk.new _ _ _).ext hb2; obtain ⟨f0', f1', f2', fl'⟩ := F2.c3; obtain ⟨r0', r1', r2', r3', rl'⟩ := R2.c2; obtain ⟨k0', k1', k2', k3', kl'⟩ := K2.c2))
    refine bodyPost_ret (v := .tuple #[knownV b1 b2, .int .i64 0, .int .i64 2]) (by simp [results, Tryd.results20, go_sem, knownV, r0', r1']) rfl ⟨b1, b2, rfl, ?_, fun h => absurd h (by omega)⟩
    exact Ext.setCell (Ext.setCell (Ext.trans (Ext.alloc (Ext.trans (by repeat (first | exact Ext.refl _ | assumption | refine Ext.alloc ?_ _ | refine Ext.drew ?_ | refine Ext.drewN ?_ _ | (refine Ext.setCell ?_ (by simp <;> omega) _) | refine Ext.trans ?_ (by assumption))) hb) _) hb2) (by simp) _) (by simp) _

theorem knownErr_sort (ss : List TS) (n : Nat) (x : TS) (h : n ≤ ss.length) : Hid (knownErr (lookN ss n) (lookT ss n) x = sortErr ss n x) := knownErr_eq ss n x h
theorem chk_ok {f : FT} (h1 : nameB f.name = true) (h2 : 1 ≤ f.body ∧ f.body ≤ 144) (h3 : 1 ≤ f.sorts.length) (h4 : f.sorts.length ≤ 120) :
    chk f = match firstBad f.sorts f.sorts.length with | some k => ((k : Int), sortErr f.sorts k (f.sorts.getD k TS.zero)) | none => (0, 0) := by
  unfold chk
  rw [if_neg (by simp [h1]), if_neg (by simpa using h2), if_neg (by omega), if_neg (by omega)]
  rfl

/-- What holds at each round's head. -/
structure ReadRel (w : World) (F K b1 b2 : Nat) (name : ByteArray) (body : Int) (ss : List TS) (A : Option Addr) (c k : Nat) (wr : World) : Prop where
  ext : Ext w wr
  fb : Blk wr w.heap.size F #[.string name, .int .i64 body, .slice A ss.length c]
  rb : Blk wr (w.heap.size + 1) K #[.map none, .map none]
  m1 : KM wr b1 k (lookN ss k)
  m2 : KM wr b2 k (lookT ss k)

set_option maxHeartbeats 4000000 in
set_option maxRecDepth 100000 in
theorem read_loop (f : FT) (A : Option Addr) (c : Nat) (w : World) (hf : FR w A c f) (h1 : nameB f.name = true) (h2 : 1 ≤ f.body ∧ f.body ≤ 144) (h3 : 1 ≤ f.sorts.length) (h4 : f.sorts.length ≤ 120) :
    Calls Tryd.prog 20 #[f.val A c] w (ReadPost f (chk f).1 (chk f).2 w) := by
  obtain ⟨name, body, ss⟩ := f
  have hnm := hf.nm
  have HC := Lib.hid (chk_ok h1 h2 h3 h4)
  simp only [FT.val] at *
  have HN := Lib.hid h1; clear h1
  have HF := Lib.hid hf; clear hf
  have hl1 : ¬ (120 : Int) < (ss.length : Int) := by omega
  have hl2 : ((ss.length : Int) == 0) = false := (by rw [beq_eq_false_iff_ne]; omega)
  generalize chk ⟨name, body, ss⟩ = ch at *
  go_enter Tryd.func20, Tryd.ntmps20
  go_wp2_with (first | (go_at_call 35; refine Calls.mono (within_yes _ _ _ _ ?_) ?_; (omega); rintro e w1 ⟨rfl, rfl⟩) | (go_at_call 35; refine Calls.mono (within_no _ _ _ _ ?_) ?_; (omega); rintro e w1 ⟨rfl, rfl⟩) | (go_at_call 40; refine Calls.mono (newKnown_any _) ?_; rintro e w1 ⟨b1, b2, rfl, hne, l1, l2, k1, k2, hb⟩; unfold knownV; have F1 := ((Blk.new _ _ _).alloc _).ext hb; have R1 := (Blk.new1 _ _ _ _).ext hb; have l1' := k1.lt; have l2' := k2.lt; obtain ⟨f0, f1, f2, fl⟩ := F1.c3; obtain ⟨r0, r1, r2, r3, rl⟩ := R1.c2) | (go_at_call 41; refine Calls.mono (isName_any _ _ hnm) ?_; rw [HN.out]; rintro e w2 ⟨rfl, hb2⟩; have F2 := (F1.alloc _).ext hb2; have R2 := (R1.alloc _).ext hb2; have K2 := (Blk.new _ _ _).ext hb2; obtain ⟨f0', f1', f2', fl'⟩ := F2.c3; obtain ⟨r0', r1', r2', r3', rl'⟩ := R2.c2; obtain ⟨k0', k1', k2', k3', kl'⟩ := K2.c2))
  have lb1 : w.heap.size + 1 + 1 ≤ b1 := by simpa using l1
  have lb2 : w.heap.size + 1 + 1 ≤ b2 := by simpa using l2
  have hx2 : Ext w w2 := (by repeat (first | exact Ext.refl _ | assumption | refine Ext.alloc ?_ _ | refine Ext.drew ?_ | refine Ext.drewN ?_ _ | (refine Ext.setCell ?_ (by simp <;> omega) _) | refine Ext.trans ?_ (by assumption)))
  have hx1 : w.heap.size + 1 + 1 ≤ w1.heap.size := by have := hb.size; simpa using this
  have hM := w1.heap.size
  clear f0 f1 f2 fl r0 r1 r2 r3 rl F1 R1 l1 l2 f0' f1' f2' fl' r0' r1' r2' r3' rl' k0' k1' k2' k3'
  go_loopw [37] (fun i wr => ∃ k : Nat, k ≤ ss.length ∧ i = .int .i64 k ∧ cleanTo ss k ∧ ReadRel w 24 51 b1 b2 name body ss A c k wr ∧ Blk wr w1.heap.size 51 #[.map (some b1), .map (some b2)]) (fun i _ => ss.length - (intOf i).toNat)
  case atStart => exact ⟨0, Nat.zero_le _, rfl, fun k hk => absurd hk (by omega), ⟨hx2, F2, R2, (k1.ext (Ext.trans (Ext.alloc (Ext.refl _) _) hb2)), (k2.ext (Ext.trans (Ext.alloc (Ext.refl _) _) hb2))⟩, K2⟩
  case round =>
    obtain ⟨k, hk, rfl, hcl, hR, hK⟩ := hrel
    have HCL := Lib.hid hcl; clear hcl
    have HR := Lib.hid hR
    obtain ⟨kc0, kc1, _, _, kl⟩ := hK.c2
    by_cases hlt : k < ss.length
    · obtain ⟨hn, ht, _, _⟩ := HF.out.sz k hlt
      obtain ⟨b, off, rfl, hbw, hcell⟩ := (HF.out.rt.ext hR.ext).2.2 (by show 0 < ss.length; omega)
      obtain ⟨c1, c2, c3, c4⟩ := hcell k hlt
      have HX := Lib.hid (knownErr_eq ss k (ss.getD k TS.zero) hk)
      have HZ : Hid (putF (lookN ss k) (ss.getD k TS.zero).name k = lookN ss (k + 1) ∧ putT (lookT ss k) (ss.getD k TS.zero) k = lookT ss (k + 1)) := Lib.hid ⟨rfl, rfl⟩
      generalize hxd : ss.getD k TS.zero = x at *
      have HXD := Lib.hid hxd; clear hxd
      have HE := Lib.hid hR.ext; have HFb := Lib.hid hR.fb; have HRb := Lib.hid hR.rb; have HM1 := Lib.hid hR.m1; have HM2 := Lib.hid hR.m2; have HKb := Lib.hid hK
      have l1'' := hR.m1.lt
      have l2'' := hR.m2.lt
      clear F2 R2 K2 k1 k2 hb hb2 hK hR hcell
      have cS := fun W a1 a2 => sort_any b1 b2 k (lookN ss k) (lookT ss k) x W a1 a2 hn ht
      have cA := fun W a1 a2 => add_any b1 b2 k (lookN ss k) (lookT ss k) x (k : Int) W a1 a2 hne hn ht (by unfold I64; omega) (by unfold maxLen; omega)
      simp only [knownV, TS.val] at cS cA
      generalize knownErr (lookN ss k) (lookT ss k) x = z at *
      have CS := Lib.hid cS; clear cS
      have CA := Lib.hid cA; clear cA
      by_cases hz : z = 0
      · subst hz
        go_wp2_with (first | (go_at_call 42; refine Calls.mono (CS.out _ ?_ ?_) ?_; (exact HM1.out.ext (by repeat (first | exact Ext.refl _ | assumption | refine Ext.alloc ?_ _ | refine Ext.drew ?_ | refine Ext.drewN ?_ _ | (refine Ext.setCell ?_ (by simp <;> omega) _) | refine Ext.trans ?_ (by assumption)))); (exact HM2.out.ext (by repeat (first | exact Ext.refl _ | assumption | refine Ext.alloc ?_ _ | refine Ext.drew ?_ | refine Ext.drewN ?_ _ | (refine Ext.setCell ?_ (by simp <;> omega) _) | refine Ext.trans ?_ (by assumption)))); rintro e w3 ⟨rfl, hb3⟩; have S3 := (Blk.new _ _ _).ext hb3; have K3 := (HKb.out.alloc _).ext hb3; obtain ⟨kk0, kk1, _, _, _⟩ := K3.c2; obtain ⟨s0, s1, s2, s3, sl⟩ := S3.c4) | (go_at_call 43; refine Calls.mono (CA.out _ ?_ ?_) ?_; (exact HM1.out.ext (Ext.trans (by repeat (first | exact Ext.refl _ | assumption | refine Ext.alloc ?_ _ | refine Ext.drew ?_ | refine Ext.drewN ?_ _ | (refine Ext.setCell ?_ (by simp <;> omega) _) | refine Ext.trans ?_ (by assumption))) hb3)); (exact HM2.out.ext (Ext.trans (by repeat (first | exact Ext.refl _ | assumption | refine Ext.alloc ?_ _ | refine Ext.drew ?_ | refine Ext.drewN ?_ _ | (refine Ext.setCell ?_ (by simp <;> omega) _) | refine Ext.trans ?_ (by assumption))) hb3)); rintro e w4 ⟨rfl, m1, m2, hB⟩))
        go_roundw
        case rel =>
          rw [HZ.out.1] at m1; rw [HZ.out.2] at m2
          have hy : Ext wr w3 := Ext.trans (by repeat (first | exact Ext.refl _ | assumption | refine Ext.alloc ?_ _ | refine Ext.drew ?_ | refine Ext.drewN ?_ _ | (refine Ext.setCell ?_ (by simp <;> omega) _) | refine Ext.trans ?_ (by assumption))) hb3
          refine ⟨k + 1, by omega, by go_num, cleanTo_succ HCL.out (by rw [HXD.out]; exact HX.out.symm), ⟨But.ext (HE.out.trans hy) hB (by simp; omega), (HFb.out.ext hy).but hB (by simp; omega), (HRb.out.ext hy).but hB (by simp; omega), m1, m2⟩, (HKb.out.ext hy).but hB (by simp; omega)⟩
        case measure => simp [intOf]; omega
      · have e0 : (z != 0) = true := by simpa using hz
        obtain ⟨r0, r1, r2, r3, rl⟩ := HRb.out.c2
        go_wp2_with (first | (go_at_call 42; refine Calls.mono (CS.out _ ?_ ?_) ?_; (exact HM1.out.ext (by repeat (first | exact Ext.refl _ | assumption | refine Ext.alloc ?_ _ | refine Ext.drew ?_ | refine Ext.drewN ?_ _ | (refine Ext.setCell ?_ (by simp <;> omega) _) | refine Ext.trans ?_ (by assumption)))); (exact HM2.out.ext (by repeat (first | exact Ext.refl _ | assumption | refine Ext.alloc ?_ _ | refine Ext.drew ?_ | refine Ext.drewN ?_ _ | (refine Ext.setCell ?_ (by simp <;> omega) _) | refine Ext.trans ?_ (by assumption)))); rintro e w3 ⟨rfl, hb3⟩; have S3 := (Blk.new _ _ _).ext hb3; have K3 := (HKb.out.alloc _).ext hb3; obtain ⟨kk0, kk1, _, _, _⟩ := K3.c2; have R3 := (HRb.out.alloc _).ext hb3; obtain ⟨rr0, rr1, rr2, rr3, _⟩ := R3.c2; obtain ⟨s0, s1, s2, s3, sl⟩ := S3.c4))
        have hch : ch = ((k : Int), z) := by
          rw [HC.out, firstBad_some HCL.out hlt (by rw [HXD.out, ← HX.out]; exact hz)]
          simp only
          rw [HXD.out, ← HX.out]
        rw [hch]
        refine bodyPost_ret (v := .tuple #[knownV b1 b2, .int .i64 k, .int .i64 z]) (by simp [results, Tryd.results20, go_sem, knownV, rr0, rr1]) rfl ⟨b1, b2, rfl, ?_, fun h => absurd h hz⟩
        exact Ext.setCell (Ext.setCell (HE.out.trans (Ext.trans (by repeat (first | exact Ext.refl _ | assumption | refine Ext.alloc ?_ _ | refine Ext.drew ?_ | refine Ext.drewN ?_ _ | (refine Ext.setCell ?_ (by simp <;> omega) _) | refine Ext.trans ?_ (by assumption))) hb3)) (by simp) _) (by simp) _
    · obtain rfl : k = ss.length := by omega
      have hrb := hR.rb
      obtain ⟨r0, r1, r2, r3, rl⟩ := hrb.c2
      clear F2 R2 K2 k1 k2 hb hb2 hK hR hrb
      go_wp2
      have hch : ch = (0, 0) := by rw [HC.out, firstBad_none HCL.out]
      rw [hch]
      refine bodyPost_ret (v := .tuple #[knownV b1 b2, .int .i64 0, .int .i64 0]) (by simp [results, Tryd.results20, go_sem, knownV, r0, r1]) rfl ⟨b1, b2, rfl, ?_, fun _ => ⟨?_, ?_⟩⟩
      · exact Ext.setCell (Ext.setCell HR.out.ext (by simp) _) (by simp) _
      · exact (HR.out.m1.but (But.setCell _ _ _) (by simp; omega)).but (But.setCell _ _ _) (by simp; omega)
      · exact (HR.out.m2.but (But.setCell _ _ _) (by simp; omega)).but (But.setCell _ _ _) (by simp; omega)

theorem read_any (f : FT) (A : Option Addr) (c : Nat) (w : World) (hf : FR w A c f) :
    Calls Tryd.prog 20 #[f.val A c] w (ReadPost f (chk f).1 (chk f).2 w) := by
  by_cases h1 : nameB f.name = true
  · by_cases h2 : 1 ≤ f.body ∧ f.body ≤ 144
    · by_cases h3 : 1 ≤ f.sorts.length ∧ f.sorts.length ≤ 120
      · exact read_loop f A c w hf h1 h2 h3.1 h3.2
      · exact read_early f A c w hf (by omega)
    · exact read_early f A c w hf (by omega)
  · exact read_early f A c w hf (.inl (by simpa using h1))

/-- What CheckFount returns. -/
def ChkV (f : FT) : Value := .tuple #[.int .i64 (chk f).1, .int .i64 (chk f).2]
set_option maxHeartbeats 1000000 in
theorem checkFount_any (f : FT) (A : Option Addr) (c : Nat) (w : World) (hf : FR w A c f) :
    Calls Tryd.prog 6 #[f.val A c] w (Ret (ChkV f) w) := by
  have cR := fun W h => read_any f A c W h
  unfold ChkV
  generalize (chk f).1 = n at *
  generalize (chk f).2 = z at *
  have HF := Lib.hid hf; clear hf
  obtain ⟨name, body, ss⟩ := f
  simp only [FT.val] at *
  have CR := Lib.hid cR; clear cR
  go_enter Tryd.func6, Tryd.ntmps6
  go_wp2_with (first | (go_at_call 20; refine Calls.mono (CR.out _ ?_) ?_; (exact HF.out.ext (by repeat (first | exact Ext.refl _ | assumption | refine Ext.alloc ?_ _ | refine Ext.drew ?_ | refine Ext.drewN ?_ _ | (refine Ext.setCell ?_ (by simp <;> omega) _) | refine Ext.trans ?_ (by assumption)))); rintro e w1 ⟨b1, b2, rfl, hb, hk⟩; unfold knownV; have F1 := (Blk.new _ _ _).ext hb; clear hk))
  go_ret2
  exact Ret.mk' rfl (by repeat (first | exact Ext.refl _ | assumption | refine Ext.alloc ?_ _ | refine Ext.drew ?_ | refine Ext.drewN ?_ _ | (refine Ext.setCell ?_ (by simp <;> omega) _) | refine Ext.trans ?_ (by assumption)))
end Go.Proofs.YtaopcpfgmjpliaaDoor
