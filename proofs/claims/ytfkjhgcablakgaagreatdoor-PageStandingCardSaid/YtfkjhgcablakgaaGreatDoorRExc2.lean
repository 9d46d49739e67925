/-
  Walks: the reference's least set that excludes itself.
-/
import Derived.Test.YtfkjhgcablakgaaGreatDoorRMem
import Derived.Test.YtfkjhgcablakgaaGreatDoorRExcl
namespace Go.Proofs.YtfkjhgcablakgaaGreatDoor
open Go.RowKit
attribute [local go_sem ↓] Go.wp_at_zero Go.wp_at_succ

set_option maxRecDepth 100000 in
set_option maxHeartbeats 8000000 in
theorem rExc_any (s : ST) (w : World) (hs : SR w s) (hr : Right s) (h7 : s.ns.length ≤ 7) : Calls Tryz.prog 25 #[s.val] w (RetS (leastR s.ns.length (exB s.cs s.zs) (2 ^ s.ns.length - 1)) w) := by
  have HSR := Lib.hid hs
  have HRS : Hid (∀ k, leastR s.ns.length (exB s.cs s.zs) (k + 1) = if exB s.cs s.zs (memTo (k + 1) s.ns.length) && (decide ((leastR s.ns.length (exB s.cs s.zs) k).length = 0) || decide ((memTo (k + 1) s.ns.length).length < (leastR s.ns.length (exB s.cs s.zs) k).length) || decide ((memTo (k + 1) s.ns.length).length = (leastR s.ns.length (exB s.cs s.zs) k).length) && before (memTo (k + 1) s.ns.length) (leastR s.ns.length (exB s.cs s.zs) k)) then memTo (k + 1) s.ns.length else leastR s.ns.length (exB s.cs s.zs) k) := Lib.hid fun _ => rfl
  have HR0 : Hid (leastR s.ns.length (exB s.cs s.zs) 0 = []) := Lib.hid rfl
  have hpow : 2 ^ s.ns.length ≤ 128 := by
    have : 2 ^ s.ns.length ≤ 2 ^ 7 := Nat.pow_le_pow_right (by decide) h7
    simpa using this
  have hpos : 0 < 2 ^ s.ns.length := Nat.two_pow_pos _
  have CMK := Lib.hid (fun k W (hk : k ≤ 1000000) => members_any k s.ns.length W hk (by omega))
  have CEX0 : Hid (∀ k X cx W, SR W s → RI W X (memTo k s.ns.length).length (memTo k s.ns.length) → (memTo k s.ns.length).length ≤ cx → Calls Tryz.prog 31 #[s.val, .slice X (memTo k s.ns.length).length cx] W (Ret (.bool (exB s.cs s.zs (memTo k s.ns.length))) W)) := Lib.hid fun k X cx W h1 h2 h3 => rExcludes_any s X cx _ W h1 h2 h3 hr (memTo_rise k _)
  have HML : Hid (∀ k, (memTo k s.ns.length).length ≤ 7) := Lib.hid fun k => Nat.le_trans (memTo_len k _) h7
  have hsh : wrap64 ((2 : Int) ^ s.ns.length) = ((2 ^ s.ns.length : Nat) : Int) := by
    have h9 : ((2 ^ s.ns.length : Nat) : Int) = (2 : Int) ^ s.ns.length := by rw [Int.natCast_pow]; rfl
    rw [← h9]
    generalize 2 ^ s.ns.length = q at hpow ⊢
    unfold wrap64; omega
  generalize 2 ^ s.ns.length = K at *
  obtain ⟨mr, hmr⟩ : ∃ mr, mr = leastR s.ns.length (exB s.cs s.zs) := ⟨_, rfl⟩
  rw [← hmr] at HRS HR0
  rw [← hmr]
  obtain ⟨me, hme⟩ : ∃ me : Nat → List Int, ∀ k, memTo k s.ns.length = me k := ⟨_, fun _ => rfl⟩
  simp only [hme] at HRS CMK CEX0 HML
  obtain ⟨Pd, hpd⟩ : ∃ Pd, Pd = exB s.cs s.zs := ⟨_, rfl⟩
  rw [← hpd] at HRS CEX0
  have HMR : Hid (∀ k, (mr k).length ≤ 7) := Lib.hid fun k => by
    induction k with
    | zero => rw [HR0.out]; simp
    | succ k ih =>
      rw [HRS.out k]
      split
      · exact HML.out (k + 1)
      · exact ih
  clear hs hr hmr hme hpd
  obtain ⟨B, d, cs, D, e, ns⟩ := s
  have hsv : ST.val ⟨B, d, cs, D, e, ns⟩ = .agg #[.slice B cs.length d, .slice D ns.length e] := rfl
  simp only [hsv] at *
  clear hsv
  have CBF := Lib.hid (fun X Y cx cy a b W h1 h2 => before_any X Y cx cy a b W h1 h2)
  go_enter Tryz.func25, Tryz.ntmps25
  have HS1 : Hid (Blk (w.alloc (.cells #[.slice B cs.length d, .slice D ns.length e] 45)) w.heap.size 45 #[.slice B cs.length d, .slice D ns.length e]) := Lib.hid (Blk.new w _ _)
  go_wp2
  go_loopw [5, 3] (fun j v wr => ∃ (k : Nat) (A : Option Addr) (c : Nat), k + 1 ≤ K ∧ j = .int .i64 ((k + 1 : Nat) : Int) ∧ v = .slice A (mr k).length c ∧ Hid (SL wr w.heap.size A c (mr k)) ∧ Hid (Blk wr w.heap.size 45 #[.slice B cs.length d, .slice D ns.length e]) ∧ Hid (Ext w wr)) (fun j _ _ => K - (intOf j).toNat)
  case atStart => exact ⟨0, none, 0, by omega, rfl, by rw [HR0.out]; rfl, Lib.hid (by rw [HR0.out]; exact SL.nil _ _), HS1, Lib.hid (by repeat first | exact yx0 _ | assumption | refine yxa ?_ _ | refine yxd ?_ | refine yxn ?_ _ | refine yxs ?_ (by simp <;> omega) _ | refine yxt ?_ (by assumption))⟩
  case round =>
    obtain ⟨k, A9, c9, hk, rfl, rfl, HBS, HS, HX⟩ := hrel
    clear HS1
    obtain ⟨m0, m1, _, _, ml⟩ := HS.out.c2
    have CME := Lib.hid (fun W => CMK.out (k + 1) W (by omega))
    have hrs := HRS.out k
    have hmr := HMR.out k
    have hml := HML.out (k + 1)
    have CSK := Lib.hid (fun X cx W h1 h2 => CEX0.out (k + 1) X cx W h1 h2)
    have hnx : ((k + 1 + 1 : Nat) : Int) = ((k + 1 : Nat) : Int) + 1 := by omega
    have HK1 : Hid (mr (k + 1 - 1) = mr k) := Lib.hid rfl
    by_cases hlt : k + 1 < K
    case neg =>
      have hkk : K - 1 = k := by omega
      have i1 : ¬ ((k + 1 : Nat) : Int) < (K : Int) := by omega
      rw [hkk]
      clear HRS HMR HML CMK CEX0 hrs CME CSK hnx HK1 HR0
      go_wp2
      go_ret
      exact ⟨A9, c9, rfl, HBS.out.ext (by repeat first | exact yx0 _ | assumption | refine yxa ?_ _ | refine yxd ?_ | refine yxn ?_ _ | refine yxs ?_ (by simp <;> omega) _ | refine yxt ?_ (by assumption)), HX.out.trans (by repeat first | exact yx0 _ | assumption | refine yxa ?_ _ | refine yxd ?_ | refine yxn ?_ _ | refine yxs ?_ (by simp <;> omega) _ | refine yxt ?_ (by assumption))⟩
    case pos =>
      have i1 : ((k + 1 : Nat) : Int) < (K : Int) := by omega
      have hle1 : 1 ≤ k + 1 := by omega
      have HN1 : Hid (mr (k + 1) = mr (k + 1)) := Lib.hid rfl
      clear HRS HMR HML CMK CEX0 HR0
      have HG : Hid (∀ wr A c, SL wr w.heap.size A c (mr (k + 1)) → Blk wr w.heap.size 45 #[.slice B cs.length d, .slice D ns.length e] → Ext w wr → ∃ (k9 : Nat) (A9 : Option Addr) (c9 : Nat), k9 + 1 ≤ K ∧ (Value.int .i64 (((k + 1 : Nat) : Int) + 1)) = .int .i64 ((k9 + 1 : Nat) : Int) ∧ (Value.slice A (mr (k + 1)).length c) = .slice A9 (mr k9).length c9 ∧ Hid (SL wr w.heap.size A9 c9 (mr k9)) ∧ Hid (Blk wr w.heap.size 45 #[.slice B cs.length d, .slice D ns.length e]) ∧ Hid (Ext w wr)) := Lib.hid fun wr A c h1 h2 h3 => ⟨k + 1, A, c, by omega, rfl, rfl, Lib.hid h1, Lib.hid h2, Lib.hid h3⟩
      clear HN1 HK1 hnx hle1
      generalize mr (k + 1) = b2 at *
      generalize me (k + 1) = M at *
      generalize mr k = b at *
      generalize k + 1 = k1 at *
      cases hp : Pd M with
      | false =>
        rw [hp, Bool.false_and, if_neg (by simp)] at hrs
        rw [hp] at CSK
        have CEX := CSK
        subst hrs
        clear hp CSK
        go_wp2_with (first | (go_at_call 65; refine Calls.mono (CME.out _) ?_; rintro e9 w4 ⟨IA, ic, rfl, hsl, hb⟩; have HSET := Lib.hid (SL.mono hsl (Ext.size (HX.out.trans (by repeat first | exact yx0 _ | assumption | refine yxa ?_ _ | refine yxd ?_ | refine yxn ?_ _ | refine yxs ?_ (by simp <;> omega) _ | refine yxt ?_ (by assumption))))); have hq := yxx HX.out (by repeat first | exact yx0 _ | assumption | refine yxa ?_ _ | refine yxd ?_ | refine yxn ?_ _ | refine yxs ?_ (by simp <;> omega) _ | refine yxt ?_ (by assumption)) hb; have HS9 := Lib.hid (HS.out.ext hq); have HX9 := Lib.hid (HX.out.trans hq); have HBS9 := Lib.hid (HBS.out.ext hq); clear m0 m1 ml HS HX HBS; have HS := HS9; have HX := HX9; have HBS := HBS9; clear HS9 HX9 HBS9; obtain ⟨m0, m1, _, _, ml⟩ := HS.out.c2; (try (have q9 := Lib.hid (HSET.out.ext hq); clear HSET; have HSET := q9; clear q9)); clear hq; clear hsl hb) | (go_at_call 31; refine Calls.mono (CEX.out _ _ _ (HSR.out.ext (HX.out.trans (by repeat first | exact yx0 _ | assumption | refine yxa ?_ _ | refine yxd ?_ | refine yxn ?_ _ | refine yxs ?_ (by simp <;> omega) _ | refine yxt ?_ (by assumption)))) (HSET.out.ri.ext (by repeat first | exact yx0 _ | assumption | refine yxa ?_ _ | refine yxd ?_ | refine yxn ?_ _ | refine yxs ?_ (by simp <;> omega) _ | refine yxt ?_ (by assumption))) (HSET.out.cap)) ?_; rintro e9 w5 ⟨rfl, hb⟩; have hq := yxx HX.out (by repeat first | exact yx0 _ | assumption | refine yxa ?_ _ | refine yxd ?_ | refine yxn ?_ _ | refine yxs ?_ (by simp <;> omega) _ | refine yxt ?_ (by assumption)) hb; have HS9 := Lib.hid (HS.out.ext hq); have HX9 := Lib.hid (HX.out.trans hq); have HBS9 := Lib.hid (HBS.out.ext hq); clear m0 m1 ml HS HX HBS; have HS := HS9; have HX := HX9; have HBS := HBS9; clear HS9 HX9 HBS9; obtain ⟨m0, m1, _, _, ml⟩ := HS.out.c2; (try (have q9 := Lib.hid (HSET.out.ext hq); clear HSET; have HSET := q9; clear q9)); clear hq; clear hb) | (go_at_call 66; refine Calls.mono (CBF.out _ _ _ _ _ (HSET.out.ri.ext (by repeat first | exact yx0 _ | assumption | refine yxa ?_ _ | refine yxd ?_ | refine yxn ?_ _ | refine yxs ?_ (by simp <;> omega) _ | refine yxt ?_ (by assumption))) (HBS.out.ri.ext (by repeat first | exact yx0 _ | assumption | refine yxa ?_ _ | refine yxd ?_ | refine yxn ?_ _ | refine yxs ?_ (by simp <;> omega) _ | refine yxt ?_ (by assumption)))) ?_; rintro e9 w6 ⟨rfl, hb⟩; have hq := yxx HX.out (by repeat first | exact yx0 _ | assumption | refine yxa ?_ _ | refine yxd ?_ | refine yxn ?_ _ | refine yxs ?_ (by simp <;> omega) _ | refine yxt ?_ (by assumption)) hb; have HS9 := Lib.hid (HS.out.ext hq); have HX9 := Lib.hid (HX.out.trans hq); have HBS9 := Lib.hid (HBS.out.ext hq); clear m0 m1 ml HS HX HBS; have HS := HS9; have HX := HX9; have HBS := HBS9; clear HS9 HX9 HBS9; obtain ⟨m0, m1, _, _, ml⟩ := HS.out.c2; (try (have q9 := Lib.hid (HSET.out.ext hq); clear HSET; have HSET := q9; clear q9)); clear hq; clear hb))
        go_roundw
        case rel => exact HG.out _ _ _ HBS.out HS.out HX.out
        case measure => simp [intOf] <;> omega
      | true =>
        rw [hp, Bool.true_and] at hrs
        rw [hp] at CSK
        have CEX := CSK
        clear hp CSK
        have CBF := Lib.hid (fun X Y cx cy W h1 h2 => CBF.out X Y cx cy M b W h1 h2)
        rcases Nat.eq_zero_or_pos b.length with h0 | h0
        · rw [decide_eq_true h0, Bool.true_or, Bool.true_or, if_pos rfl] at hrs
          have i2 : ((b.length : Int) == 0) = true := by rw [beq_iff_eq]; omega
          subst hrs
          clear h0
          go_wp2_with (first | (go_at_call 65; refine Calls.mono (CME.out _) ?_; rintro e9 w4 ⟨IA, ic, rfl, hsl, hb⟩; have HSET := Lib.hid (SL.mono hsl (Ext.size (HX.out.trans (by repeat first | exact yx0 _ | assumption | refine yxa ?_ _ | refine yxd ?_ | refine yxn ?_ _ | refine yxs ?_ (by simp <;> omega) _ | refine yxt ?_ (by assumption))))); have hq := yxx HX.out (by repeat first | exact yx0 _ | assumption | refine yxa ?_ _ | refine yxd ?_ | refine yxn ?_ _ | refine yxs ?_ (by simp <;> omega) _ | refine yxt ?_ (by assumption)) hb; have HS9 := Lib.hid (HS.out.ext hq); have HX9 := Lib.hid (HX.out.trans hq); have HBS9 := Lib.hid (HBS.out.ext hq); clear m0 m1 ml HS HX HBS; have HS := HS9; have HX := HX9; have HBS := HBS9; clear HS9 HX9 HBS9; obtain ⟨m0, m1, _, _, ml⟩ := HS.out.c2; (try (have q9 := Lib.hid (HSET.out.ext hq); clear HSET; have HSET := q9; clear q9)); clear hq; clear hsl hb) | (go_at_call 31; refine Calls.mono (CEX.out _ _ _ (HSR.out.ext (HX.out.trans (by repeat first | exact yx0 _ | assumption | refine yxa ?_ _ | refine yxd ?_ | refine yxn ?_ _ | refine yxs ?_ (by simp <;> omega) _ | refine yxt ?_ (by assumption)))) (HSET.out.ri.ext (by repeat first | exact yx0 _ | assumption | refine yxa ?_ _ | refine yxd ?_ | refine yxn ?_ _ | refine yxs ?_ (by simp <;> omega) _ | refine yxt ?_ (by assumption))) (HSET.out.cap)) ?_; rintro e9 w5 ⟨rfl, hb⟩; have hq := yxx HX.out (by repeat first | exact yx0 _ | assumption | refine yxa ?_ _ | refine yxd ?_ | refine yxn ?_ _ | refine yxs ?_ (by simp <;> omega) _ | refine yxt ?_ (by assumption)) hb; have HS9 := Lib.hid (HS.out.ext hq); have HX9 := Lib.hid (HX.out.trans hq); have HBS9 := Lib.hid (HBS.out.ext hq); clear m0 m1 ml HS HX HBS; have HS := HS9; have HX := HX9; have HBS := HBS9; clear HS9 HX9 HBS9; obtain ⟨m0, m1, _, _, ml⟩ := HS.out.c2; (try (have q9 := Lib.hid (HSET.out.ext hq); clear HSET; have HSET := q9; clear q9)); clear hq; clear hb) | (go_at_call 66; refine Calls.mono (CBF.out _ _ _ _ _ (HSET.out.ri.ext (by repeat first | exact yx0 _ | assumption | refine yxa ?_ _ | refine yxd ?_ | refine yxn ?_ _ | refine yxs ?_ (by simp <;> omega) _ | refine yxt ?_ (by assumption))) (HBS.out.ri.ext (by repeat first | exact yx0 _ | assumption | refine yxa ?_ _ | refine yxd ?_ | refine yxn ?_ _ | refine yxs ?_ (by simp <;> omega) _ | refine yxt ?_ (by assumption)))) ?_; rintro e9 w6 ⟨rfl, hb⟩; have hq := yxx HX.out (by repeat first | exact yx0 _ | assumption | refine yxa ?_ _ | refine yxd ?_ | refine yxn ?_ _ | refine yxs ?_ (by simp <;> omega) _ | refine yxt ?_ (by assumption)) hb; have HS9 := Lib.hid (HS.out.ext hq); have HX9 := Lib.hid (HX.out.trans hq); have HBS9 := Lib.hid (HBS.out.ext hq); clear m0 m1 ml HS HX HBS; have HS := HS9; have HX := HX9; have HBS := HBS9; clear HS9 HX9 HBS9; obtain ⟨m0, m1, _, _, ml⟩ := HS.out.c2; (try (have q9 := Lib.hid (HSET.out.ext hq); clear HSET; have HSET := q9; clear q9)); clear hq; clear hb))
          go_roundw
          case rel => exact HG.out _ _ _ HSET.out HS.out HX.out
          case measure => simp [intOf] <;> omega
        have i2 : ((b.length : Int) == 0) = false := by rw [beq_eq_false_iff_ne]; omega
        rw [decide_eq_false (by omega : ¬ b.length = 0), Bool.false_or] at hrs
        rcases Nat.lt_trichotomy M.length b.length with h1 | h1 | h1
        · rw [decide_eq_true h1, Bool.true_or, if_pos rfl] at hrs
          have i3 : (M.length : Int) < (b.length : Int) := by omega
          subst hrs
          clear h1 h0
          go_wp2_with (first | (go_at_call 65; refine Calls.mono (CME.out _) ?_; rintro e9 w4 ⟨IA, ic, rfl, hsl, hb⟩; have HSET := Lib.hid (SL.mono hsl (Ext.size (HX.out.trans (by repeat first | exact yx0 _ | assumption | refine yxa ?_ _ | refine yxd ?_ | refine yxn ?_ _ | refine yxs ?_ (by simp <;> omega) _ | refine yxt ?_ (by assumption))))); have hq := yxx HX.out (by repeat first | exact yx0 _ | assumption | refine yxa ?_ _ | refine yxd ?_ | refine yxn ?_ _ | refine yxs ?_ (by simp <;> omega) _ | refine yxt ?_ (by assumption)) hb; have HS9 := Lib.hid (HS.out.ext hq); have HX9 := Lib.hid (HX.out.trans hq); have HBS9 := Lib.hid (HBS.out.ext hq); clear m0 m1 ml HS HX HBS; have HS := HS9; have HX := HX9; have HBS := HBS9; clear HS9 HX9 HBS9; obtain ⟨m0, m1, _, _, ml⟩ := HS.out.c2; (try (have q9 := Lib.hid (HSET.out.ext hq); clear HSET; have HSET := q9; clear q9)); clear hq; clear hsl hb) | (go_at_call 31; refine Calls.mono (CEX.out _ _ _ (HSR.out.ext (HX.out.trans (by repeat first | exact yx0 _ | assumption | refine yxa ?_ _ | refine yxd ?_ | refine yxn ?_ _ | refine yxs ?_ (by simp <;> omega) _ | refine yxt ?_ (by assumption)))) (HSET.out.ri.ext (by repeat first | exact yx0 _ | assumption | refine yxa ?_ _ | refine yxd ?_ | refine yxn ?_ _ | refine yxs ?_ (by simp <;> omega) _ | refine yxt ?_ (by assumption))) (HSET.out.cap)) ?_; rintro e9 w5 ⟨rfl, hb⟩; have hq := yxx HX.out (by repeat first | exact yx0 _ | assumption | refine yxa ?_ _ | refine yxd ?_ | refine yxn ?_ _ | refine yxs ?_ (by simp <;> omega) _ | refine yxt ?_ (by assumption)) hb; have HS9 := Lib.hid (HS.out.ext hq); have HX9 := Lib.hid (HX.out.trans hq); have HBS9 := Lib.hid (HBS.out.ext hq); clear m0 m1 ml HS HX HBS; have HS := HS9; have HX := HX9; have HBS := HBS9; clear HS9 HX9 HBS9; obtain ⟨m0, m1, _, _, ml⟩ := HS.out.c2; (try (have q9 := Lib.hid (HSET.out.ext hq); clear HSET; have HSET := q9; clear q9)); clear hq; clear hb) | (go_at_call 66; refine Calls.mono (CBF.out _ _ _ _ _ (HSET.out.ri.ext (by repeat first | exact yx0 _ | assumption | refine yxa ?_ _ | refine yxd ?_ | refine yxn ?_ _ | refine yxs ?_ (by simp <;> omega) _ | refine yxt ?_ (by assumption))) (HBS.out.ri.ext (by repeat first | exact yx0 _ | assumption | refine yxa ?_ _ | refine yxd ?_ | refine yxn ?_ _ | refine yxs ?_ (by simp <;> omega) _ | refine yxt ?_ (by assumption)))) ?_; rintro e9 w6 ⟨rfl, hb⟩; have hq := yxx HX.out (by repeat first | exact yx0 _ | assumption | refine yxa ?_ _ | refine yxd ?_ | refine yxn ?_ _ | refine yxs ?_ (by simp <;> omega) _ | refine yxt ?_ (by assumption)) hb; have HS9 := Lib.hid (HS.out.ext hq); have HX9 := Lib.hid (HX.out.trans hq); have HBS9 := Lib.hid (HBS.out.ext hq); clear m0 m1 ml HS HX HBS; have HS := HS9; have HX := HX9; have HBS := HBS9; clear HS9 HX9 HBS9; obtain ⟨m0, m1, _, _, ml⟩ := HS.out.c2; (try (have q9 := Lib.hid (HSET.out.ext hq); clear HSET; have HSET := q9; clear q9)); clear hq; clear hb))
          go_roundw
          case rel => exact HG.out _ _ _ HSET.out HS.out HX.out
          case measure => simp [intOf] <;> omega
        · rw [decide_eq_false (by omega), Bool.false_or, decide_eq_true h1, Bool.true_and] at hrs
          have i3 : ¬ (M.length : Int) < (b.length : Int) := by omega
          have i4 : ((M.length : Int) == (b.length : Int)) = true := by rw [beq_iff_eq]; omega
          cases hbf : before M b with
          | true =>
            rw [hbf, if_pos rfl] at hrs
            rw [hbf] at CBF
            subst hrs
            clear hbf h1 h0
            go_wp2_with (first | (go_at_call 65; refine Calls.mono (CME.out _) ?_; rintro e9 w4 ⟨IA, ic, rfl, hsl, hb⟩; have HSET := Lib.hid (SL.mono hsl (Ext.size (HX.out.trans (by repeat first | exact yx0 _ | assumption | refine yxa ?_ _ | refine yxd ?_ | refine yxn ?_ _ | refine yxs ?_ (by simp <;> omega) _ | refine yxt ?_ (by assumption))))); have hq := yxx HX.out (by repeat first | exact yx0 _ | assumption | refine yxa ?_ _ | refine yxd ?_ | refine yxn ?_ _ | refine yxs ?_ (by simp <;> omega) _ | refine yxt ?_ (by assumption)) hb; have HS9 := Lib.hid (HS.out.ext hq); have HX9 := Lib.hid (HX.out.trans hq); have HBS9 := Lib.hid (HBS.out.ext hq); clear m0 m1 ml HS HX HBS; have HS := HS9; have HX := HX9; have HBS := HBS9; clear HS9 HX9 HBS9; obtain ⟨m0, m1, _, _, ml⟩ := HS.out.c2; (try (have q9 := Lib.hid (HSET.out.ext hq); clear HSET; have HSET := q9; clear q9)); clear hq; clear hsl hb) | (go_at_call 31; refine Calls.mono (CEX.out _ _ _ (HSR.out.ext (HX.out.trans (by repeat first | exact yx0 _ | assumption | refine yxa ?_ _ | refine yxd ?_ | refine yxn ?_ _ | refine yxs ?_ (by simp <;> omega) _ | refine yxt ?_ (by assumption)))) (HSET.out.ri.ext (by repeat first | exact yx0 _ | assumption | refine yxa ?_ _ | refine yxd ?_ | refine yxn ?_ _ | refine yxs ?_ (by simp <;> omega) _ | refine yxt ?_ (by assumption))) (HSET.out.cap)) ?_; rintro e9 w5 ⟨rfl, hb⟩; have hq := yxx HX.out (by repeat first | exact yx0 _ | assumption | refine yxa ?_ _ | refine yxd ?_ | refine yxn ?_ _ | refine yxs ?_ (by simp <;> omega) _ | refine yxt ?_ (by assumption)) hb; have HS9 := Lib.hid (HS.out.ext hq); have HX9 := Lib.hid (HX.out.trans hq); have HBS9 := Lib.hid (HBS.out.ext hq); clear m0 m1 ml HS HX HBS; have HS := HS9; have HX := HX9; have HBS := HBS9; clear HS9 HX9 HBS9; obtain ⟨m0, m1, _, _, ml⟩ := HS.out.c2; (try (have q9 := Lib.hid (HSET.out.ext hq); clear HSET; have HSET := q9; clear q9)); clear hq; clear hb) | (go_at_call 66; refine Calls.mono (CBF.out _ _ _ _ _ (HSET.out.ri.ext (by repeat first | exact yx0 _ | assumption | refine yxa ?_ _ | refine yxd ?_ | refine yxn ?_ _ | refine yxs ?_ (by simp <;> omega) _ | refine yxt ?_ (by assumption))) (HBS.out.ri.ext (by repeat first | exact yx0 _ | assumption | refine yxa ?_ _ | refine yxd ?_ | refine yxn ?_ _ | refine yxs ?_ (by simp <;> omega) _ | refine yxt ?_ (by assumption)))) ?_; rintro e9 w6 ⟨rfl, hb⟩; have hq := yxx HX.out (by repeat first | exact yx0 _ | assumption | refine yxa ?_ _ | refine yxd ?_ | refine yxn ?_ _ | refine yxs ?_ (by simp <;> omega) _ | refine yxt ?_ (by assumption)) hb; have HS9 := Lib.hid (HS.out.ext hq); have HX9 := Lib.hid (HX.out.trans hq); have HBS9 := Lib.hid (HBS.out.ext hq); clear m0 m1 ml HS HX HBS; have HS := HS9; have HX := HX9; have HBS := HBS9; clear HS9 HX9 HBS9; obtain ⟨m0, m1, _, _, ml⟩ := HS.out.c2; (try (have q9 := Lib.hid (HSET.out.ext hq); clear HSET; have HSET := q9; clear q9)); clear hq; clear hb))
            go_roundw
            case rel => exact HG.out _ _ _ HSET.out HS.out HX.out
            case measure => simp [intOf] <;> omega
          | false =>
            rw [hbf, if_neg (by simp)] at hrs
            rw [hbf] at CBF
            subst hrs
            clear hbf h1 h0
            go_wp2_with (first | (go_at_call 65; refine Calls.mono (CME.out _) ?_; rintro e9 w4 ⟨IA, ic, rfl, hsl, hb⟩; have HSET := Lib.hid (SL.mono hsl (Ext.size (HX.out.trans (by repeat first | exact yx0 _ | assumption | refine yxa ?_ _ | refine yxd ?_ | refine yxn ?_ _ | refine yxs ?_ (by simp <;> omega) _ | refine yxt ?_ (by assumption))))); have hq := yxx HX.out (by repeat first | exact yx0 _ | assumption | refine yxa ?_ _ | refine yxd ?_ | refine yxn ?_ _ | refine yxs ?_ (by simp <;> omega) _ | refine yxt ?_ (by assumption)) hb; have HS9 := Lib.hid (HS.out.ext hq); have HX9 := Lib.hid (HX.out.trans hq); have HBS9 := Lib.hid (HBS.out.ext hq); clear m0 m1 ml HS HX HBS; have HS := HS9; have HX := HX9; have HBS := HBS9; clear HS9 HX9 HBS9; obtain ⟨m0, m1, _, _, ml⟩ := HS.out.c2; (try (have q9 := Lib.hid (HSET.out.ext hq); clear HSET; have HSET := q9; clear q9)); clear hq; clear hsl hb) | (go_at_call 31; refine Calls.mono (CEX.out _ _ _ (HSR.out.ext (HX.out.trans (by repeat first | exact yx0 _ | assumption | refine yxa ?_ _ | refine yxd ?_ | refine yxn ?_ _ | refine yxs ?_ (by simp <;> omega) _ | refine yxt ?_ (by assumption)))) (HSET.out.ri.ext (by repeat first | exact yx0 _ | assumption | refine yxa ?_ _ | refine yxd ?_ | refine yxn ?_ _ | refine yxs ?_ (by simp <;> omega) _ | refine yxt ?_ (by assumption))) (HSET.out.cap)) ?_; rintro e9 w5 ⟨rfl, hb⟩; have hq := yxx HX.out (by repeat first | exact yx0 _ | assumption | refine yxa ?_ _ | refine yxd ?_ | refine yxn ?_ _ | refine yxs ?_ (by simp <;> omega) _ | refine yxt ?_ (by assumption)) hb; have HS9 := Lib.hid (HS.out.ext hq); have HX9 := Lib.hid (HX.out.trans hq); have HBS9 := Lib.hid (HBS.out.ext hq); clear m0 m1 ml HS HX HBS; have HS := HS9; have HX := HX9; have HBS := HBS9; clear HS9 HX9 HBS9; obtain ⟨m0, m1, _, _, ml⟩ := HS.out.c2; (try (have q9 := Lib.hid (HSET.out.ext hq); clear HSET; have HSET := q9; clear q9)); clear hq; clear hb) | (go_at_call 66; refine Calls.mono (CBF.out _ _ _ _ _ (HSET.out.ri.ext (by repeat first | exact yx0 _ | assumption | refine yxa ?_ _ | refine yxd ?_ | refine yxn ?_ _ | refine yxs ?_ (by simp <;> omega) _ | refine yxt ?_ (by assumption))) (HBS.out.ri.ext (by repeat first | exact yx0 _ | assumption | refine yxa ?_ _ | refine yxd ?_ | refine yxn ?_ _ | refine yxs ?_ (by simp <;> omega) _ | refine yxt ?_ (by assumption)))) ?_; rintro e9 w6 ⟨rfl, hb⟩; have hq := yxx HX.out (by repeat first | exact yx0 _ | assumption | refine yxa ?_ _ | refine yxd ?_ | refine yxn ?_ _ | refine yxs ?_ (by simp <;> omega) _ | refine yxt ?_ (by assumption)) hb; have HS9 := Lib.hid (HS.out.ext hq); have HX9 := Lib.hid (HX.out.trans hq); have HBS9 := Lib.hid (HBS.out.ext hq); clear m0 m1 ml HS HX HBS; have HS := HS9; have HX := HX9; have HBS := HBS9; clear HS9 HX9 HBS9; obtain ⟨m0, m1, _, _, ml⟩ := HS.out.c2; (try (have q9 := Lib.hid (HSET.out.ext hq); clear HSET; have HSET := q9; clear q9)); clear hq; clear hb))
            go_roundw
            case rel => exact HG.out _ _ _ HBS.out HS.out HX.out
            case measure => simp [intOf] <;> omega
        · rw [decide_eq_false (by omega), Bool.false_or, decide_eq_false (by omega), Bool.false_and, if_neg (by simp)] at hrs
          have i3 : ¬ (M.length : Int) < (b.length : Int) := by omega
          have i4 : ((M.length : Int) == (b.length : Int)) = false := by rw [beq_eq_false_iff_ne]; omega
          subst hrs
          clear h1 h0
          go_wp2_with (first | (go_at_call 65; refine Calls.mono (CME.out _) ?_; rintro e9 w4 ⟨IA, ic, rfl, hsl, hb⟩; have HSET := Lib.hid (SL.mono hsl (Ext.size (HX.out.trans (by repeat first | exact yx0 _ | assumption | refine yxa ?_ _ | refine yxd ?_ | refine yxn ?_ _ | refine yxs ?_ (by simp <;> omega) _ | refine yxt ?_ (by assumption))))); have hq := yxx HX.out (by repeat first | exact yx0 _ | assumption | refine yxa ?_ _ | refine yxd ?_ | refine yxn ?_ _ | refine yxs ?_ (by simp <;> omega) _ | refine yxt ?_ (by assumption)) hb; have HS9 := Lib.hid (HS.out.ext hq); have HX9 := Lib.hid (HX.out.trans hq); have HBS9 := Lib.hid (HBS.out.ext hq); clear m0 m1 ml HS HX HBS; have HS := HS9; have HX := HX9; have HBS := HBS9; clear HS9 HX9 HBS9; obtain ⟨m0, m1, _, _, ml⟩ := HS.out.c2; (try (have q9 := Lib.hid (HSET.out.ext hq); clear HSET; have HSET := q9; clear q9)); clear hq; clear hsl hb) | (go_at_call 31; refine Calls.mono (CEX.out _ _ _ (HSR.out.ext (HX.out.trans (by repeat first | exact yx0 _ | assumption | refine yxa ?_ _ | refine yxd ?_ | refine yxn ?_ _ | refine yxs ?_ (by simp <;> omega) _ | refine yxt ?_ (by assumption)))) (HSET.out.ri.ext (by repeat first | exact yx0 _ | assumption | refine yxa ?_ _ | refine yxd ?_ | refine yxn ?_ _ | refine yxs ?_ (by simp <;> omega) _ | refine yxt ?_ (by assumption))) (HSET.out.cap)) ?_; rintro e9 w5 ⟨rfl, hb⟩; have hq := yxx HX.out (by repeat first | exact yx0 _ | assumption | refine yxa ?_ _ | refine yxd ?_ | refine yxn ?_ _ | refine yxs ?_ (by simp <;> omega) _ | refine yxt ?_ (by assumption)) hb; have HS9 := Lib.hid (HS.out.ext hq); have HX9 := Lib.hid (HX.out.trans hq); have HBS9 := Lib.hid (HBS.out.ext hq); clear m0 m1 ml HS HX HBS; have HS := HS9; have HX := HX9; have HBS := HBS9; clear HS9 HX9 HBS9; obtain ⟨m0, m1, _, _, ml⟩ := HS.out.c2; (try (have q9 := Lib.hid (HSET.out.ext hq); clear HSET; have HSET := q9; clear q9)); clear hq; clear hb) | (go_at_call 66; refine Calls.mono (CBF.out _ _ _ _ _ (HSET.out.ri.ext (by repeat first | exact yx0 _ | assumption | refine yxa ?_ _ | refine yxd ?_ | refine yxn ?_ _ | refine yxs ?_ (by simp <;> omega) _ | refine yxt ?_ (by assumption))) (HBS.out.ri.ext (by repeat first | exact yx0 _ | assumption | refine yxa ?_ _ | refine yxd ?_ | refine yxn ?_ _ | refine yxs ?_ (by simp <;> omega) _ | refine yxt ?_ (by assumption)))) ?_; rintro e9 w6 ⟨rfl, hb⟩; have hq := yxx HX.out (by repeat first | exact yx0 _ | assumption | refine yxa ?_ _ | refine yxd ?_ | refine yxn ?_ _ | refine yxs ?_ (by simp <;> omega) _ | refine yxt ?_ (by assumption)) hb; have HS9 := Lib.hid (HS.out.ext hq); have HX9 := Lib.hid (HX.out.trans hq); have HBS9 := Lib.hid (HBS.out.ext hq); clear m0 m1 ml HS HX HBS; have HS := HS9; have HX := HX9; have HBS := HBS9; clear HS9 HX9 HBS9; obtain ⟨m0, m1, _, _, ml⟩ := HS.out.c2; (try (have q9 := Lib.hid (HSET.out.ext hq); clear HSET; have HSET := q9; clear q9)); clear hq; clear hb))
          go_roundw
          case rel => exact HG.out _ _ _ HBS.out HS.out HX.out
          case measure => simp [intOf] <;> omega
end Go.Proofs.YtfkjhgcablakgaaGreatDoor
