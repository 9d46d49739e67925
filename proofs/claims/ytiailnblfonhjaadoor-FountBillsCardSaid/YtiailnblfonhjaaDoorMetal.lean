/-
  Walks: metal.
-/
import Derived.Test.YtiailnblfonhjaaDoorCase
namespace Go.Proofs.YtiailnblfonhjaaDoor
open Go.RowKit

def sumTo (g : Nat → Int) : Nat → Int | 0 => 0 | n + 1 => sumTo g n + g n
theorem sumTo_bd (g : Nat → Int) (M : Int) (n : Nat) (h : ∀ k, k < n → 0 ≤ g k ∧ g k ≤ M) : 0 ≤ sumTo g n ∧ sumTo g n ≤ n * M := by
  induction n with
  | zero => simp [sumTo]
  | succ n ih =>
    have h1 := ih (fun k hk => h k (by omega))
    have h2 := h n (by omega)
    rw [sumTo]
    have : ((n + 1 : Nat) : Int) * M = n * M + M := by rw [Int.natCast_add, Int.add_mul]; simp
    omega
def metalTo (ss : List TS) (cs : List Int) (body : Int) (n : Nat) : Int := sumTo (fun k => cs.getD k 0 * (ss.getD k TS.zero).width * body) n
/-- Counts, widths and the body lie in their ranges. -/
structure MetalOk (f : FT) (cs : List Int) : Prop where
  len : cs.length = f.sorts.length
  few : f.sorts.length ≤ 120
  body : 1 ≤ f.body ∧ f.body ≤ 144
  cnt : ∀ k, k < f.sorts.length → 0 ≤ cs.getD k 0 ∧ cs.getD k 0 ≤ 1000000
  wid : ∀ k, k < f.sorts.length → 1 ≤ (f.sorts.getD k TS.zero).width ∧ (f.sorts.getD k TS.zero).width ≤ 100000
theorem MetalOk.of {f : FT} {cs : List Int} (h1 : (chk f).2 = 0) (h2 : countsErr f cs = 0) : MetalOk f cs := by
  obtain ⟨a, b, c, d⟩ := chk_zero h1
  obtain ⟨e, g⟩ := counts_zero h2
  exact ⟨e, c, a, fun k hk => g k (by omega), fun k hk => (sort_zero (d k hk)).2.2.2.1⟩
theorem MetalOk.term {f : FT} {cs : List Int} (h : MetalOk f cs) (k : Nat) (hk : k < f.sorts.length) : 0 ≤ cs.getD k 0 * (f.sorts.getD k TS.zero).width * f.body ∧ cs.getD k 0 * (f.sorts.getD k TS.zero).width * f.body ≤ 14400000000000 := by
  have w1 := h.wid k hk
  have p1 := mul_bd (h.cnt k hk) ⟨Int.le_trans (by omega) w1.1, w1.2⟩
  exact mul_bd p1 ⟨Int.le_trans (by omega) h.body.1, h.body.2⟩
theorem MetalOk.bd {f : FT} {cs : List Int} (h : MetalOk f cs) (n : Nat) (hn : n ≤ f.sorts.length) : 0 ≤ metalTo f.sorts cs f.body n ∧ metalTo f.sorts cs f.body n ≤ 1728000000000000 := by
  have := sumTo_bd (fun k => cs.getD k 0 * (f.sorts.getD k TS.zero).width * f.body) 14400000000000 n (fun k hk => h.term k (by omega))
  have hf := h.few
  unfold metalTo
  omega

set_option maxHeartbeats 1000000 in
set_option maxRecDepth 100000 in
theorem metal_any (f : FT) (A : Option Addr) (c : Nat) (B : Option Addr) (d : Nat) (cs : List Int) (w : World) (hf : FR w A c f) (hc : RI w B cs.length cs) (hok : MetalOk f cs) :
    Calls Tryd.prog 87 #[f.val A c, .slice B cs.length d] w (Ret (.int .i64 (metalTo f.sorts cs f.body f.sorts.length)) w) := by
  have HOK := Lib.hid hok
  have hf := hf.rt
  obtain ⟨name, body, ss⟩ := f
  simp only [FT.val] at *
  obtain ⟨hb1, hb2⟩ := hok.body
  have hfew := hok.few
  have HL := Lib.hid hok.len; clear hok
  have HF := Lib.hid hf; have HC := Lib.hid hc; clear hf hc
  go_enter Tryd.func87, Tryd.ntmps87
  go_wp2
  go_loopw [5, 11] (fun s i wr => ∃ k : Nat, k ≤ ss.length ∧ i = .int .i64 k ∧ s = .int .i64 (metalTo ss cs body k) ∧ Ext (w.alloc (.cells #[.string name, .int .i64 body, .slice A ss.length c] 24)) wr) (fun s i _ => ss.length - (intOf i).toNat)
  case atStart => exact ⟨0, Nat.zero_le _, rfl, rfl, Ext.refl _⟩
  case round =>
    obtain ⟨k, hk, rfl, rfl, hx⟩ := hrel
    by_cases hlt : k < ss.length
    · obtain ⟨b, off, rfl, hb, hcell⟩ := (HF.out.ext hx.of_alloc).2.2 (by omega)
      have hltc : k < cs.length := by have : cs.length = ss.length := HL.out; omega
      obtain ⟨b', off', rfl, hb', hcell'⟩ := (HC.out.ext hx.of_alloc).2.2 (by omega)
      obtain ⟨c1, c2, c3, c4⟩ := hcell k hlt
      have d1 := hcell' k hltc
      have e1 := boxed hx 1 _ rfl
      have hlti : (k : Int) < (cs.length : Int) := by omega
      have hsz := hx.lt_of_alloc
      have w1 := HOK.out.wid k hlt
      have w2 := HOK.out.cnt k hlt
      have p1 := mul_bd w2 ⟨Int.le_trans (by omega) w1.1, w1.2⟩
      have p2 := HOK.out.term k hlt
      have p3 := HOK.out.bd k hk
      have HM : Hid (metalTo ss cs body (k + 1) = metalTo ss cs body k + cs.getD k 0 * (ss.getD k TS.zero).width * body) := Lib.hid rfl
      simp only at w1 w2 p1 p2 p3
      generalize ss.getD k TS.zero = s at *
      generalize cs.getD k 0 = q at *
      clear hcell hcell'
      have q1 := IntWalk.i64_in (q * s.width) (by omega)
      have q2 := IntWalk.i64_in (q * s.width * body) (by omega)
      have q3 := IntWalk.i64_in (metalTo ss cs body k + q * s.width * body) (by omega)
      have HX := Lib.hid hx; clear hx
      go_wp2
      go_quiet (fail)
      go_wp2
      clear q1 q2 q3
      go_roundw
      case rel => exact ⟨k + 1, by omega, by go_num, by rw [HM.out], HX.out.trans (by repeat (first | exact Ext.refl _ | assumption | refine Ext.alloc ?_ _ | refine Ext.drew ?_ | refine Ext.drewN ?_ _ | (refine Ext.setCell ?_ (by simp <;> omega) _) | refine Ext.trans ?_ (by assumption)))⟩
      case measure => simp [intOf]; omega
    · obtain rfl : k = ss.length := by omega
      have HX := Lib.hid hx; clear hx
      go_wp2
      go_ret
      exact Ret.mk' rfl HX.out.of_alloc

def metalR (f : FT) (cs : List Int) : Int := metalTo f.sorts cs f.body f.sorts.length
def metalOfV (f : FT) (cs : List Int) : Value := .tuple #[.int .i64 (if caseErr f cs ≠ 0 then 0 else metalR f cs), .int .i64 (caseErr f cs)]
set_option maxHeartbeats 1000000 in
theorem metalOf_any (f : FT) (A : Option Addr) (c : Nat) (B : Option Addr) (d : Nat) (cs : List Int) (w : World) (hf : FR w A c f) (hc : RI w B cs.length cs) :
    Calls Tryd.prog 49 #[f.val A c, .slice B cs.length d] w (Ret (metalOfV f cs) w) := by
  have cC := fun X W h1 h2 => check_any f A c X 1 1 [⟨B, d, cs⟩] W h1 h2
  rw [checkErr_one] at cC
  simp only at cC
  have HF := Lib.hid hf; have HC := Lib.hid hc; clear hf hc
  by_cases hz : caseErr f cs = 0
  · have HV : Hid (metalOfV f cs = .tuple #[.int .i64 (metalR f cs), .int .i64 0]) := Lib.hid (by unfold metalOfV; rw [if_neg (by rw [hz]; simp), hz])
    obtain ⟨h1, h2⟩ := case_zero hz
    have cM := fun W h h' => metal_any f A c B d cs W h h' (MetalOk.of h1 h2)
    rw [hz] at cC
    clear hz h1 h2
    rw [HV.out]
    unfold metalR
    generalize metalTo f.sorts cs f.body f.sorts.length = m at *
    obtain ⟨name, body, ss⟩ := f
    simp only [FT.val] at *
    have CC := Lib.hid cC; have CM := Lib.hid cM; clear cC cM
    go_enter Tryd.func49, Tryd.ntmps49
    go_wp2_with (first | (go_at_call 61; refine Calls.mono (CC.out _ _ ?_ ?_) ?_; (exact HF.out.ext (by repeat (first | exact Ext.refl _ | assumption | refine Ext.alloc ?_ _ | refine Ext.drew ?_ | refine Ext.drewN ?_ _ | (refine Ext.setCell ?_ (by simp <;> omega) _) | refine Ext.trans ?_ (by assumption)))); (exact RL.one (Blk.new1 _ _ _ _) (HC.out.ext (by repeat (first | exact Ext.refl _ | assumption | refine Ext.alloc ?_ _ | refine Ext.drew ?_ | refine Ext.drewN ?_ _ | (refine Ext.setCell ?_ (by simp <;> omega) _) | refine Ext.trans ?_ (by assumption))))); rintro e w1 ⟨rfl, hb⟩; have F1 := ((Blk.new _ _ _).alloc _).ext hb; obtain ⟨f0, f1, f2, fl⟩ := F1.c3) | (go_at_call 87; refine Calls.mono (CM.out _ ?_ ?_) ?_; (exact HF.out.ext (Ext.trans (by repeat (first | exact Ext.refl _ | assumption | refine Ext.alloc ?_ _ | refine Ext.drew ?_ | refine Ext.drewN ?_ _ | (refine Ext.setCell ?_ (by simp <;> omega) _) | refine Ext.trans ?_ (by assumption))) hb)); (exact HC.out.ext (Ext.trans (by repeat (first | exact Ext.refl _ | assumption | refine Ext.alloc ?_ _ | refine Ext.drew ?_ | refine Ext.drewN ?_ _ | (refine Ext.setCell ?_ (by simp <;> omega) _) | refine Ext.trans ?_ (by assumption))) hb)); rintro e w2 ⟨rfl, hb2⟩))
    go_ret2
    exact Ret.mk' rfl ((Ext.trans (by repeat (first | exact Ext.refl _ | assumption | refine Ext.alloc ?_ _ | refine Ext.drew ?_ | refine Ext.drewN ?_ _ | (refine Ext.setCell ?_ (by simp <;> omega) _) | refine Ext.trans ?_ (by assumption))) hb).trans hb2)
  · have HV : Hid (metalOfV f cs = .tuple #[.int .i64 0, .int .i64 (caseErr f cs)]) := Lib.hid (by unfold metalOfV; rw [if_pos hz])
    rw [HV.out]
    generalize caseErr f cs = z at *
    have e0 : (z != 0) = true := by simpa using hz
    clear hz
    obtain ⟨name, body, ss⟩ := f
    simp only [FT.val] at *
    have CC := Lib.hid cC; clear cC
    go_enter Tryd.func49, Tryd.ntmps49
    go_wp2_with (first | (go_at_call 61; refine Calls.mono (CC.out _ _ ?_ ?_) ?_; (exact HF.out.ext (by repeat (first | exact Ext.refl _ | assumption | refine Ext.alloc ?_ _ | refine Ext.drew ?_ | refine Ext.drewN ?_ _ | (refine Ext.setCell ?_ (by simp <;> omega) _) | refine Ext.trans ?_ (by assumption)))); (exact RL.one (Blk.new1 _ _ _ _) (HC.out.ext (by repeat (first | exact Ext.refl _ | assumption | refine Ext.alloc ?_ _ | refine Ext.drew ?_ | refine Ext.drewN ?_ _ | (refine Ext.setCell ?_ (by simp <;> omega) _) | refine Ext.trans ?_ (by assumption))))); rintro e w1 ⟨rfl, hb⟩))
    go_ret2
    exact Ret.mk' rfl (by repeat (first | exact Ext.refl _ | assumption | refine Ext.alloc ?_ _ | refine Ext.drew ?_ | refine Ext.drewN ?_ _ | (refine Ext.setCell ?_ (by simp <;> omega) _) | refine Ext.trans ?_ (by assumption)))

/-- What Cast returns. -/
def castR (f : FT) (stock : Int) (bill : List Int) : Int × Int × Int :=
  if (chk f).2 ≠ 0 then (0, 0, (chk f).2) else if ¬ (0 ≤ stock ∧ stock ≤ 1000000000000000000) then (0, 0, 2) else if countsErr f bill ≠ 0 then (0, 0, countsErr f bill)
  else if metalR f bill = 0 then (0, 0, 11) else (stock / metalR f bill, stock % metalR f bill, 0)
def castV (f : FT) (stock : Int) (bill : List Int) : Value := .tuple #[.int .i64 (castR f stock bill).1, .int .i64 (castR f stock bill).2.1, .int .i64 (castR f stock bill).2.2]
set_option maxHeartbeats 2000000 in
theorem cast_any (f : FT) (A : Option Addr) (c : Nat) (stock : Int) (B : Option Addr) (d : Nat) (cs : List Int) (w : World) (hf : FR w A c f) (hc : RI w B cs.length cs) :
    Calls Tryd.prog 50 #[f.val A c, .int .i64 stock, .slice B cs.length d] w (Ret (castV f stock cs) w) := by
  have cC := fun W h1 => check_any f A c none 0 0 [] W h1 (RL.none_ W)
  rw [checkErr_none] at cC
  have cN := fun W h => checkCounts_any f A c B d cs W h
  have HF := Lib.hid hf; have HC := Lib.hid hc; clear hf hc
  have HV : Hid (castR f stock cs = if (chk f).2 ≠ 0 then (0, 0, (chk f).2) else if ¬ (0 ≤ stock ∧ stock ≤ 1000000000000000000) then (0, 0, 2) else if countsErr f cs ≠ 0 then (0, 0, countsErr f cs)
    else if metalR f cs = 0 then (0, 0, 11) else (stock / metalR f cs, stock % metalR f cs, 0)) := Lib.hid rfl
  have cM := fun h1 h2 W h h' => metal_any f A c B d cs W h h' (MetalOk.of h1 h2)
  have cB := fun h1 h2 => (MetalOk.of (f := f) (cs := cs) h1 h2).bd f.sorts.length (Nat.le_refl _)
  unfold castV
  unfold metalR at HV
  generalize metalTo f.sorts cs f.body f.sorts.length = m at *
  generalize castR f stock cs = r at *
  generalize (chk f).2 = z at *
  generalize countsErr f cs = y at *
  obtain ⟨name, body, ss⟩ := f
  simp only [FT.val] at *
  have CC := Lib.hid cC; have CN := Lib.hid cN; clear cC cN
  by_cases hz : z = 0
  · subst hz
    by_cases hs : 0 ≤ stock ∧ stock ≤ 1000000000000000000
    · by_cases hy : y = 0
      · subst hy
        have CM := Lib.hid (cM rfl rfl)
        obtain ⟨mb1, mb2⟩ := cB rfl rfl
        clear cM cB
        by_cases hm : m = 0
        · subst hm
          go_enter Tryd.func50, Tryd.ntmps50
          go_wp2_with (first | (go_at_call 63; refine Calls.mono (within_yes _ _ _ _ ?_) ?_; (omega); rintro e w1 ⟨rfl, rfl⟩) | (go_at_call 63; refine Calls.mono (within_no _ _ _ _ ?_) ?_; (omega); rintro e w1 ⟨rfl, rfl⟩) | (go_at_call 61; refine Calls.mono (CC.out _ ?_) ?_; (exact HF.out.ext (by repeat (first | exact Ext.refl _ | assumption | refine Ext.alloc ?_ _ | refine Ext.drew ?_ | refine Ext.drewN ?_ _ | (refine Ext.setCell ?_ (by simp <;> omega) _) | refine Ext.trans ?_ (by assumption)))); rintro e w1 ⟨rfl, hb⟩; have F1 := (Blk.new _ _ _).ext hb; obtain ⟨f0, f1, f2, fl⟩ := F1.c3) | (go_at_call 77; refine Calls.mono (CN.out _ ?_) ?_; (exact HC.out.ext (Ext.trans (by repeat (first | exact Ext.refl _ | assumption | refine Ext.alloc ?_ _ | refine Ext.drew ?_ | refine Ext.drewN ?_ _ | (refine Ext.setCell ?_ (by simp <;> omega) _) | refine Ext.trans ?_ (by assumption))) hb)); rintro e w2 ⟨rfl, hb2⟩; have F2 := F1.ext hb2; obtain ⟨f0', f1', f2', fl'⟩ := F2.c3) | (go_at_call 87; refine Calls.mono (CM.out _ ?_ ?_) ?_; (exact HF.out.ext ((Ext.trans (by repeat (first | exact Ext.refl _ | assumption | refine Ext.alloc ?_ _ | refine Ext.drew ?_ | refine Ext.drewN ?_ _ | (refine Ext.setCell ?_ (by simp <;> omega) _) | refine Ext.trans ?_ (by assumption))) hb).trans hb2)); (exact HC.out.ext ((Ext.trans (by repeat (first | exact Ext.refl _ | assumption | refine Ext.alloc ?_ _ | refine Ext.drew ?_ | refine Ext.drewN ?_ _ | (refine Ext.setCell ?_ (by simp <;> omega) _) | refine Ext.trans ?_ (by assumption))) hb).trans hb2)); rintro e w3 ⟨rfl, hb3⟩))
          go_ret3
          exact Ret.mk' (by rw [HV.out, if_neg (by simp), if_neg (by simpa using hs), if_neg (by simp), if_pos (by first | exact rfl | trivial)]; rfl) (((Ext.trans (by repeat (first | exact Ext.refl _ | assumption | refine Ext.alloc ?_ _ | refine Ext.drew ?_ | refine Ext.drewN ?_ _ | (refine Ext.setCell ?_ (by simp <;> omega) _) | refine Ext.trans ?_ (by assumption))) hb).trans hb2).trans hb3)
        · have hm1 : 1 ≤ m := by omega
          have e0 : (m == 0) = false := by simpa using hm
          have HM := Lib.hid hm; clear hm
          go_enter Tryd.func50, Tryd.ntmps50
          go_wp2_with (first | (go_at_call 63; refine Calls.mono (within_yes _ _ _ _ ?_) ?_; (omega); rintro e w1 ⟨rfl, rfl⟩) | (go_at_call 63; refine Calls.mono (within_no _ _ _ _ ?_) ?_; (omega); rintro e w1 ⟨rfl, rfl⟩) | (go_at_call 61; refine Calls.mono (CC.out _ ?_) ?_; (exact HF.out.ext (by repeat (first | exact Ext.refl _ | assumption | refine Ext.alloc ?_ _ | refine Ext.drew ?_ | refine Ext.drewN ?_ _ | (refine Ext.setCell ?_ (by simp <;> omega) _) | refine Ext.trans ?_ (by assumption)))); rintro e w1 ⟨rfl, hb⟩; have F1 := (Blk.new _ _ _).ext hb; obtain ⟨f0, f1, f2, fl⟩ := F1.c3) | (go_at_call 77; refine Calls.mono (CN.out _ ?_) ?_; (exact HC.out.ext (Ext.trans (by repeat (first | exact Ext.refl _ | assumption | refine Ext.alloc ?_ _ | refine Ext.drew ?_ | refine Ext.drewN ?_ _ | (refine Ext.setCell ?_ (by simp <;> omega) _) | refine Ext.trans ?_ (by assumption))) hb)); rintro e w2 ⟨rfl, hb2⟩; have F2 := F1.ext hb2; obtain ⟨f0', f1', f2', fl'⟩ := F2.c3) | (go_at_call 87; refine Calls.mono (CM.out _ ?_ ?_) ?_; (exact HF.out.ext ((Ext.trans (by repeat (first | exact Ext.refl _ | assumption | refine Ext.alloc ?_ _ | refine Ext.drew ?_ | refine Ext.drewN ?_ _ | (refine Ext.setCell ?_ (by simp <;> omega) _) | refine Ext.trans ?_ (by assumption))) hb).trans hb2)); (exact HC.out.ext ((Ext.trans (by repeat (first | exact Ext.refl _ | assumption | refine Ext.alloc ?_ _ | refine Ext.drew ?_ | refine Ext.drewN ?_ _ | (refine Ext.setCell ?_ (by simp <;> omega) _) | refine Ext.trans ?_ (by assumption))) hb).trans hb2)); rintro e w3 ⟨rfl, hb3⟩))
          go_quiet (fail)
          go_wp2
          go_ret3
          refine Ret.mk' ?_ ((((Ext.trans (by repeat (first | exact Ext.refl _ | assumption | refine Ext.alloc ?_ _ | refine Ext.drew ?_ | refine Ext.drewN ?_ _ | (refine Ext.setCell ?_ (by simp <;> omega) _) | refine Ext.trans ?_ (by assumption))) hb).trans hb2).trans hb3).trans (by repeat (first | exact Ext.refl _ | assumption | refine Ext.alloc ?_ _ | refine Ext.drew ?_ | refine Ext.drewN ?_ _ | (refine Ext.setCell ?_ (by simp <;> omega) _) | refine Ext.trans ?_ (by assumption))))
          rw [HV.out, if_neg (by simp), if_neg (by simpa using hs), if_neg (by simp), if_neg HM.out]
          rfl
      · have e0 : (y != 0) = true := by simpa using hy
        have HY := Lib.hid hy; clear hy cM cB
        go_enter Tryd.func50, Tryd.ntmps50
        go_wp2_with (first | (go_at_call 63; refine Calls.mono (within_yes _ _ _ _ ?_) ?_; (omega); rintro e w1 ⟨rfl, rfl⟩) | (go_at_call 63; refine Calls.mono (within_no _ _ _ _ ?_) ?_; (omega); rintro e w1 ⟨rfl, rfl⟩) | (go_at_call 61; refine Calls.mono (CC.out _ ?_) ?_; (exact HF.out.ext (by repeat (first | exact Ext.refl _ | assumption | refine Ext.alloc ?_ _ | refine Ext.drew ?_ | refine Ext.drewN ?_ _ | (refine Ext.setCell ?_ (by simp <;> omega) _) | refine Ext.trans ?_ (by assumption)))); rintro e w1 ⟨rfl, hb⟩; have F1 := (Blk.new _ _ _).ext hb; obtain ⟨f0, f1, f2, fl⟩ := F1.c3) | (go_at_call 77; refine Calls.mono (CN.out _ ?_) ?_; (exact HC.out.ext (Ext.trans (by repeat (first | exact Ext.refl _ | assumption | refine Ext.alloc ?_ _ | refine Ext.drew ?_ | refine Ext.drewN ?_ _ | (refine Ext.setCell ?_ (by simp <;> omega) _) | refine Ext.trans ?_ (by assumption))) hb)); rintro e w2 ⟨rfl, hb2⟩))
        go_ret3
        exact Ret.mk' (by rw [HV.out, if_neg (by simp), if_neg (by simpa using hs), if_pos HY.out]; rfl) ((Ext.trans (by repeat (first | exact Ext.refl _ | assumption | refine Ext.alloc ?_ _ | refine Ext.drew ?_ | refine Ext.drewN ?_ _ | (refine Ext.setCell ?_ (by simp <;> omega) _) | refine Ext.trans ?_ (by assumption))) hb).trans hb2)
    · clear cM cB
      go_enter Tryd.func50, Tryd.ntmps50
      go_wp2_with (first | (go_at_call 63; refine Calls.mono (within_yes _ _ _ _ ?_) ?_; (omega); rintro e w1 ⟨rfl, rfl⟩) | (go_at_call 63; refine Calls.mono (within_no _ _ _ _ ?_) ?_; (omega); rintro e w1 ⟨rfl, rfl⟩) | (go_at_call 61; refine Calls.mono (CC.out _ ?_) ?_; (exact HF.out.ext (by repeat (first | exact Ext.refl _ | assumption | refine Ext.alloc ?_ _ | refine Ext.drew ?_ | refine Ext.drewN ?_ _ | (refine Ext.setCell ?_ (by simp <;> omega) _) | refine Ext.trans ?_ (by assumption)))); rintro e w1 ⟨rfl, hb⟩; have F1 := (Blk.new _ _ _).ext hb; obtain ⟨f0, f1, f2, fl⟩ := F1.c3))
      go_ret3
      exact Ret.mk' (by rw [HV.out, if_neg (by simp), if_pos hs]; rfl) (by repeat (first | exact Ext.refl _ | assumption | refine Ext.alloc ?_ _ | refine Ext.drew ?_ | refine Ext.drewN ?_ _ | (refine Ext.setCell ?_ (by simp <;> omega) _) | refine Ext.trans ?_ (by assumption)))
  · have e0 : (z != 0) = true := by simpa using hz
    have HZ := Lib.hid hz; clear hz cM cB
    go_enter Tryd.func50, Tryd.ntmps50
    go_wp2_with (first | (go_at_call 61; refine Calls.mono (CC.out _ ?_) ?_; (exact HF.out.ext (by repeat (first | exact Ext.refl _ | assumption | refine Ext.alloc ?_ _ | refine Ext.drew ?_ | refine Ext.drewN ?_ _ | (refine Ext.setCell ?_ (by simp <;> omega) _) | refine Ext.trans ?_ (by assumption)))); rintro e w1 ⟨rfl, hb⟩))
    go_ret3
    exact Ret.mk' (by rw [HV.out, if_pos HZ.out]; rfl) (by repeat (first | exact Ext.refl _ | assumption | refine Ext.alloc ?_ _ | refine Ext.drew ?_ | refine Ext.drewN ?_ _ | (refine Ext.setCell ?_ (by simp <;> omega) _) | refine Ext.trans ?_ (by assumption)))
end Go.Proofs.YtiailnblfonhjaaDoor
