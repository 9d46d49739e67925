/-
  Walks: the reference's greatest set that stands.
-/
import Derived.Test.YtfkjhgcablakgaaGreatDoorRMem
import Derived.Test.YtfkjhgcablakgaaGreatDoorRExcl
namespace Go.Proofs.YtfkjhgcablakgaaGreatDoor
open Go.RowKit
attribute [local go_sem ↓] Go.wp_at_zero Go.wp_at_succ

set_option maxRecDepth 100000 in
set_option maxHeartbeats 8000000 in
theorem rMost_any (s : ST) (w : World) (hs : SR w s) (hr : Right s) (h7 : s.ns.length ≤ 7) : Calls Tryz.prog 24 #[s.val] w (RetS (mostR s.ns.length (stB s.cs s.zs) (2 ^ s.ns.length)) w) := by
  have HSR := Lib.hid hs
  have HRS : Hid (∀ k, mostR s.ns.length (stB s.cs s.zs) (k + 1) = if stB s.cs s.zs (memTo k s.ns.length) && (decide ((mostR s.ns.length (stB s.cs s.zs) k).length < (memTo k s.ns.length).length) || decide ((memTo k s.ns.length).length = (mostR s.ns.length (stB s.cs s.zs) k).length) && before (memTo k s.ns.length) (mostR s.ns.length (stB s.cs s.zs) k)) then memTo k s.ns.length else mostR s.ns.length (stB s.cs s.zs) k) := Lib.hid fun _ => rfl
  have HR0 : Hid (mostR s.ns.length (stB s.cs s.zs) 0 = []) := Lib.hid rfl
  have hpow : 2 ^ s.ns.length ≤ 128 := by
    have : 2 ^ s.ns.length ≤ 2 ^ 7 := Nat.pow_le_pow_right (by decide) h7
    simpa using this
  have CMK := Lib.hid (fun k W (hk : k ≤ 1000000) => members_any k s.ns.length W hk (by omega))
  have CSH0 : Hid (∀ k X cx W, SR W s → RI W X (memTo k s.ns.length).length (memTo k s.ns.length) → Calls Tryz.prog 26 #[s.val, .slice X (memTo k s.ns.length).length cx] W (Ret (.int .i64 (shortE s.cs s.zs (memTo k s.ns.length) - 1)) W)) := Lib.hid fun k X cx W h1 h2 => rShort_any s X cx _ W h1 h2 hr (memTo_rise k _)
  have HPD : Hid (∀ l, stB s.cs s.zs l = true → shortE s.cs s.zs l - 1 = -1) := Lib.hid fun l h => by
    have := of_decide_eq_true h; rw [this]; rfl
  have HPF : Hid (∀ l, stB s.cs s.zs l = false → ∃ m : Nat, shortE s.cs s.zs l - 1 = m) := Lib.hid fun l h => by
    have h1 := of_decide_eq_false h
    obtain ⟨m, hm⟩ := shortE_nat s.cs s.zs l
    exact ⟨m - 1, by omega⟩
  have HML : Hid (∀ k, (memTo k s.ns.length).length ≤ 7) := Lib.hid fun k => Nat.le_trans (memTo_len k _) h7
  have hsh : wrap64 ((2 : Int) ^ s.ns.length) = ((2 ^ s.ns.length : Nat) : Int) := by
    have h9 : ((2 ^ s.ns.length : Nat) : Int) = (2 : Int) ^ s.ns.length := by rw [Int.natCast_pow]; rfl
    rw [← h9]
    generalize 2 ^ s.ns.length = q at hpow ⊢
    unfold wrap64; omega
  generalize 2 ^ s.ns.length = K at *
  obtain ⟨mr, hmr⟩ : ∃ mr, mr = mostR s.ns.length (stB s.cs s.zs) := ⟨_, rfl⟩
  rw [← hmr] at HRS HR0
  rw [← hmr]
  obtain ⟨me, hme⟩ : ∃ me : Nat → List Int, ∀ k, memTo k s.ns.length = me k := ⟨_, fun _ => rfl⟩
  simp only [hme] at HRS CMK CSH0 HML
  obtain ⟨Pd, hpd⟩ : ∃ Pd, Pd = stB s.cs s.zs := ⟨_, rfl⟩
  rw [← hpd] at HRS HPD HPF
  obtain ⟨sh, hsh2⟩ : ∃ sh : List Int → Int, ∀ l, shortE s.cs s.zs l - 1 = sh l := ⟨_, fun _ => rfl⟩
  simp only [hsh2] at CSH0 HPD HPF
  have HMR : Hid (∀ k, (mr k).length ≤ 7) := Lib.hid fun k => by
    induction k with
    | zero => rw [HR0.out]; simp
    | succ k ih =>
      rw [HRS.out k]
      split
      · exact HML.out k
      · exact ih
  clear hs hr hmr hme hpd hsh2
  obtain ⟨B, d, cs, D, e, ns⟩ := s
  have hsv : ST.val ⟨B, d, cs, D, e, ns⟩ = .agg #[.slice B cs.length d, .slice D ns.length e] := rfl
  simp only [hsv] at *
  clear hsv
  have CBF := Lib.hid (fun X Y cx cy a b W h1 h2 => before_any X Y cx cy a b W h1 h2)
  go_enter Tryz.func24, Tryz.ntmps24
  have HS1 : Hid (Blk (w.alloc (.cells #[.slice B cs.length d, .slice D ns.length e] 45)) w.heap.size 45 #[.slice B cs.length d, .slice D ns.length e]) := Lib.hid (Blk.new w _ _)
  go_wp2
  go_loopw [5, 3] (fun j v wr => ∃ (k : Nat) (A : Option Addr) (c : Nat), k ≤ K ∧ j = .int .i64 (k : Int) ∧ v = .slice A (mr k).length c ∧ Hid (SL wr w.heap.size A c (mr k)) ∧ Hid (Blk wr w.heap.size 45 #[.slice B cs.length d, .slice D ns.length e]) ∧ Hid (Ext w wr)) (fun j _ _ => K - (intOf j).toNat)
  case atStart => exact ⟨0, none, 0, Nat.zero_le _, rfl, by rw [HR0.out]; rfl, Lib.hid (by rw [HR0.out]; exact SL.nil _ _), HS1, Lib.hid (by repeat first | exact yx0 _ | assumption | refine yxa ?_ _ | refine yxd ?_ | refine yxn ?_ _ | refine yxs ?_ (by simp <;> omega) _ | refine yxt ?_ (by assumption))⟩
  case round =>
    obtain ⟨k, A9, c9, hk, rfl, rfl, HBS, HS, HX⟩ := hrel
    clear HS1
    obtain ⟨m0, m1, _, _, ml⟩ := HS.out.c2
    by_cases hlt : k < K
    case neg =>
      obtain rfl : k = K := by omega
      have i1 : ¬ (k : Int) < (k : Int) := by omega
      go_wp2
      go_ret
      exact ⟨A9, c9, rfl, HBS.out.ext (by repeat first | exact yx0 _ | assumption | refine yxa ?_ _ | refine yxd ?_ | refine yxn ?_ _ | refine yxs ?_ (by simp <;> omega) _ | refine yxt ?_ (by assumption)), HX.out.trans (by repeat first | exact yx0 _ | assumption | refine yxa ?_ _ | refine yxd ?_ | refine yxn ?_ _ | refine yxs ?_ (by simp <;> omega) _ | refine yxt ?_ (by assumption))⟩
    case pos =>
      have i1 : (k : Int) < (K : Int) := by omega
      have CME := Lib.hid (fun W => CMK.out k W (by omega))
      have hrs := HRS.out k
      have hmr := HMR.out k
      have hml := HML.out k
      have CSK := Lib.hid (fun X cx W h1 h2 => CSH0.out k X cx W h1 h2)
      clear HRS HMR HML CMK CSH0
      generalize me k = M at *
      generalize mr k = b at *
      cases hp : Pd M with
      | false =>
        rw [hp, Bool.false_and, if_neg (by simp)] at hrs
        obtain ⟨m, hm⟩ := HPF.out M hp
        have i2 : ¬ (m : Int) < 0 := by omega
        have CSH : Hid (∀ X cx W, SR W ⟨B, d, cs, D, e, ns⟩ → RI W X M.length M → Calls Tryz.prog 26 #[.agg #[.slice B cs.length d, .slice D ns.length e], .slice X M.length cx] W (Ret (.int .i64 (m : Int)) W)) := Lib.hid (by rw [← hm]; exact CSK.out)
        have HN := Lib.hid hrs
        clear hrs hm hp CSK HPF HPD
        go_wp2_with (first | (go_at_call 65; refine Calls.mono (CME.out _) ?_; rintro e9 w4 ⟨IA, ic, rfl, hsl, hb⟩; have HSET := Lib.hid (SL.mono hsl (Ext.size (HX.out.trans (by repeat first | exact yx0 _ | assumption | refine yxa ?_ _ | refine yxd ?_ | refine yxn ?_ _ | refine yxs ?_ (by simp <;> omega) _ | refine yxt ?_ (by assumption))))); have hq := yxx HX.out (by repeat first | exact yx0 _ | assumption | refine yxa ?_ _ | refine yxd ?_ | refine yxn ?_ _ | refine yxs ?_ (by simp <;> omega) _ | refine yxt ?_ (by assumption)) hb; have HS9 := Lib.hid (HS.out.ext hq); have HX9 := Lib.hid (HX.out.trans hq); have HBS9 := Lib.hid (HBS.out.ext hq); clear m0 m1 ml HS HX HBS; have HS := HS9; have HX := HX9; have HBS := HBS9; clear HS9 HX9 HBS9; obtain ⟨m0, m1, _, _, ml⟩ := HS.out.c2; (try (have q9 := Lib.hid (HSET.out.ext hq); clear HSET; have HSET := q9; clear q9)); clear hq; clear hsl hb) | (go_at_call 26; refine Calls.mono (CSH.out _ _ _ (HSR.out.ext (HX.out.trans (by repeat first | exact yx0 _ | assumption | refine yxa ?_ _ | refine yxd ?_ | refine yxn ?_ _ | refine yxs ?_ (by simp <;> omega) _ | refine yxt ?_ (by assumption)))) (HSET.out.ri.ext (by repeat first | exact yx0 _ | assumption | refine yxa ?_ _ | refine yxd ?_ | refine yxn ?_ _ | refine yxs ?_ (by simp <;> omega) _ | refine yxt ?_ (by assumption)))) ?_; rintro e9 w5 ⟨rfl, hb⟩; have hq := yxx HX.out (by repeat first | exact yx0 _ | assumption | refine yxa ?_ _ | refine yxd ?_ | refine yxn ?_ _ | refine yxs ?_ (by simp <;> omega) _ | refine yxt ?_ (by assumption)) hb; have HS9 := Lib.hid (HS.out.ext hq); have HX9 := Lib.hid (HX.out.trans hq); have HBS9 := Lib.hid (HBS.out.ext hq); clear m0 m1 ml HS HX HBS; have HS := HS9; have HX := HX9; have HBS := HBS9; clear HS9 HX9 HBS9; obtain ⟨m0, m1, _, _, ml⟩ := HS.out.c2; (try (have q9 := Lib.hid (HSET.out.ext hq); clear HSET; have HSET := q9; clear q9)); clear hq; clear hb) | (go_at_call 66; refine Calls.mono (CBF.out _ _ _ _ _ (HSET.out.ri.ext (by repeat first | exact yx0 _ | assumption | refine yxa ?_ _ | refine yxd ?_ | refine yxn ?_ _ | refine yxs ?_ (by simp <;> omega) _ | refine yxt ?_ (by assumption))) (HBS.out.ri.ext (by repeat first | exact yx0 _ | assumption | refine yxa ?_ _ | refine yxd ?_ | refine yxn ?_ _ | refine yxs ?_ (by simp <;> omega) _ | refine yxt ?_ (by assumption)))) ?_; rintro e9 w6 ⟨rfl, hb⟩; have hq := yxx HX.out (by repeat first | exact yx0 _ | assumption | refine yxa ?_ _ | refine yxd ?_ | refine yxn ?_ _ | refine yxs ?_ (by simp <;> omega) _ | refine yxt ?_ (by assumption)) hb; have HS9 := Lib.hid (HS.out.ext hq); have HX9 := Lib.hid (HX.out.trans hq); have HBS9 := Lib.hid (HBS.out.ext hq); clear m0 m1 ml HS HX HBS; have HS := HS9; have HX := HX9; have HBS := HBS9; clear HS9 HX9 HBS9; obtain ⟨m0, m1, _, _, ml⟩ := HS.out.c2; (try (have q9 := Lib.hid (HSET.out.ext hq); clear HSET; have HSET := q9; clear q9)); clear hq; clear hb))
        go_roundw
        case rel => exact ⟨k + 1, A9, c9, by omega, by go_num, by rw [HN.out], Lib.hid (by rw [HN.out]; exact HBS.out), HS, HX⟩
        case measure => simp [intOf] <;> omega
      | true =>
        rw [hp, Bool.true_and] at hrs
        have CSH : Hid (∀ X cx W, SR W ⟨B, d, cs, D, e, ns⟩ → RI W X M.length M → Calls Tryz.prog 26 #[.agg #[.slice B cs.length d, .slice D ns.length e], .slice X M.length cx] W (Ret (.int .i64 (-1)) W)) := Lib.hid (by rw [← HPD.out M hp]; exact CSK.out)
        clear hp CSK HPF HPD
        have CBF := Lib.hid (fun X Y cx cy W h1 h2 => CBF.out X Y cx cy M b W h1 h2)
        rcases Nat.lt_trichotomy b.length M.length with h1 | h1 | h1
        · rw [decide_eq_true h1, Bool.true_or, if_pos rfl] at hrs
          have i3 : (b.length : Int) < (M.length : Int) := by omega
          have HN := Lib.hid hrs
          clear hrs h1
          go_wp2_with (first | (go_at_call 65; refine Calls.mono (CME.out _) ?_; rintro e9 w4 ⟨IA, ic, rfl, hsl, hb⟩; have HSET := Lib.hid (SL.mono hsl (Ext.size (HX.out.trans (by repeat first | exact yx0 _ | assumption | refine yxa ?_ _ | refine yxd ?_ | refine yxn ?_ _ | refine yxs ?_ (by simp <;> omega) _ | refine yxt ?_ (by assumption))))); have hq := yxx HX.out (by repeat first | exact yx0 _ | assumption | refine yxa ?_ _ | refine yxd ?_ | refine yxn ?_ _ | refine yxs ?_ (by simp <;> omega) _ | refine yxt ?_ (by assumption)) hb; have HS9 := Lib.hid (HS.out.ext hq); have HX9 := Lib.hid (HX.out.trans hq); have HBS9 := Lib.hid (HBS.out.ext hq); clear m0 m1 ml HS HX HBS; have HS := HS9; have HX := HX9; have HBS := HBS9; clear HS9 HX9 HBS9; obtain ⟨m0, m1, _, _, ml⟩ := HS.out.c2; (try (have q9 := Lib.hid (HSET.out.ext hq); clear HSET; have HSET := q9; clear q9)); clear hq; clear hsl hb) | (go_at_call 26; refine Calls.mono (CSH.out _ _ _ (HSR.out.ext (HX.out.trans (by repeat first | exact yx0 _ | assumption | refine yxa ?_ _ | refine yxd ?_ | refine yxn ?_ _ | refine yxs ?_ (by simp <;> omega) _ | refine yxt ?_ (by assumption)))) (HSET.out.ri.ext (by repeat first | exact yx0 _ | assumption | refine yxa ?_ _ | refine yxd ?_ | refine yxn ?_ _ | refine yxs ?_ (by simp <;> omega) _ | refine yxt ?_ (by assumption)))) ?_; rintro e9 w5 ⟨rfl, hb⟩; have hq := yxx HX.out (by repeat first | exact yx0 _ | assumption | refine yxa ?_ _ | refine yxd ?_ | refine yxn ?_ _ | refine yxs ?_ (by simp <;> omega) _ | refine yxt ?_ (by assumption)) hb; have HS9 := Lib.hid (HS.out.ext hq); have HX9 := Lib.hid (HX.out.trans hq); have HBS9 := Lib.hid (HBS.out.ext hq); clear m0 m1 ml HS HX HBS; have HS := HS9; have HX := HX9; have HBS := HBS9; clear HS9 HX9 HBS9; obtain ⟨m0, m1, _, _, ml⟩ := HS.out.c2; (try (have q9 := Lib.hid (HSET.out.ext hq); clear HSET; have HSET := q9; clear q9)); clear hq; clear hb) | (go_at_call 66; refine Calls.mono (CBF.out _ _ _ _ _ (HSET.out.ri.ext (by repeat first | exact yx0 _ | assumption | refine yxa ?_ _ | refine yxd ?_ | refine yxn ?_ _ | refine yxs ?_ (by simp <;> omega) _ | refine yxt ?_ (by assumption))) (HBS.out.ri.ext (by repeat first | exact yx0 _ | assumption | refine yxa ?_ _ | refine yxd ?_ | refine yxn ?_ _ | refine yxs ?_ (by simp <;> omega) _ | refine yxt ?_ (by assumption)))) ?_; rintro e9 w6 ⟨rfl, hb⟩; have hq := yxx HX.out (by repeat first | exact yx0 _ | assumption | refine yxa ?_ _ | refine yxd ?_ | refine yxn ?_ _ | refine yxs ?_ (by simp <;> omega) _ | refine yxt ?_ (by assumption)) hb; have HS9 := Lib.hid (HS.out.ext hq); have HX9 := Lib.hid (HX.out.trans hq); have HBS9 := Lib.hid (HBS.out.ext hq); clear m0 m1 ml HS HX HBS; have HS := HS9; have HX := HX9; have HBS := HBS9; clear HS9 HX9 HBS9; obtain ⟨m0, m1, _, _, ml⟩ := HS.out.c2; (try (have q9 := Lib.hid (HSET.out.ext hq); clear HSET; have HSET := q9; clear q9)); clear hq; clear hb))
          go_roundw
          case rel => exact ⟨k + 1, IA, ic, by omega, by go_num, by rw [HN.out], Lib.hid (by rw [HN.out]; exact HSET.out), HS, HX⟩
          case measure => simp [intOf] <;> omega
        · rw [decide_eq_false (by omega), Bool.false_or, decide_eq_true h1.symm, Bool.true_and] at hrs
          have i3 : ¬ (b.length : Int) < (M.length : Int) := by omega
          have i4 : ((M.length : Int) == (b.length : Int)) = true := by rw [beq_iff_eq]; omega
          cases hbf : before M b with
          | true =>
            rw [hbf, if_pos rfl] at hrs
            rw [hbf] at CBF
            have HN := Lib.hid hrs
            clear hrs hbf h1
            go_wp2_with (first | (go_at_call 65; refine Calls.mono (CME.out _) ?_; rintro e9 w4 ⟨IA, ic, rfl, hsl, hb⟩; have HSET := Lib.hid (SL.mono hsl (Ext.size (HX.out.trans (by repeat first | exact yx0 _ | assumption | refine yxa ?_ _ | refine yxd ?_ | refine yxn ?_ _ | refine yxs ?_ (by simp <;> omega) _ | refine yxt ?_ (by assumption))))); have hq := yxx HX.out (by repeat first | exact yx0 _ | assumption | refine yxa ?_ _ | refine yxd ?_ | refine yxn ?_ _ | refine yxs ?_ (by simp <;> omega) _ | refine yxt ?_ (by assumption)) hb; have HS9 := Lib.hid (HS.out.ext hq); have HX9 := Lib.hid (HX.out.trans hq); have HBS9 := Lib.hid (HBS.out.ext hq); clear m0 m1 ml HS HX HBS; have HS := HS9; have HX := HX9; have HBS := HBS9; clear HS9 HX9 HBS9; obtain ⟨m0, m1, _, _, ml⟩ := HS.out.c2; (try (have q9 := Lib.hid (HSET.out.ext hq); clear HSET; have HSET := q9; clear q9)); clear hq; clear hsl hb) | (go_at_call 26; refine Calls.mono (CSH.out _ _ _ (HSR.out.ext (HX.out.trans (by repeat first | exact yx0 _ | assumption | refine yxa ?_ _ | refine yxd ?_ | refine yxn ?_ _ | refine yxs ?_ (by simp <;> omega) _ | refine yxt ?_ (by assumption)))) (HSET.out.ri.ext (by repeat first | exact yx0 _ | assumption | refine yxa ?_ _ | refine yxd ?_ | refine yxn ?_ _ | refine yxs ?_ (by simp <;> omega) _ | refine yxt ?_ (by assumption)))) ?_; rintro e9 w5 ⟨rfl, hb⟩; have hq := yxx HX.out (by repeat first | exact yx0 _ | assumption | refine yxa ?_ _ | refine yxd ?_ | refine yxn ?_ _ | refine yxs ?_ (by simp <;> omega) _ | refine yxt ?_ (by assumption)) hb; have HS9 := Lib.hid (HS.out.ext hq); have HX9 := Lib.hid (HX.out.trans hq); have HBS9 := Lib.hid (HBS.out.ext hq); clear m0 m1 ml HS HX HBS; have HS := HS9; have HX := HX9; have HBS := HBS9; clear HS9 HX9 HBS9; obtain ⟨m0, m1, _, _, ml⟩ := HS.out.c2; (try (have q9 := Lib.hid (HSET.out.ext hq); clear HSET; have HSET := q9; clear q9)); clear hq; clear hb) | (go_at_call 66; refine Calls.mono (CBF.out _ _ _ _ _ (HSET.out.ri.ext (by repeat first | exact yx0 _ | assumption | refine yxa ?_ _ | refine yxd ?_ | refine yxn ?_ _ | refine yxs ?_ (by simp <;> omega) _ | refine yxt ?_ (by assumption))) (HBS.out.ri.ext (by repeat first | exact yx0 _ | assumption | refine yxa ?_ _ | refine yxd ?_ | refine yxn ?_ _ | refine yxs ?_ (by simp <;> omega) _ | refine yxt ?_ (by assumption)))) ?_; rintro e9 w6 ⟨rfl, hb⟩; have hq := yxx HX.out (by repeat first | exact yx0 _ | assumption | refine yxa ?_ _ | refine yxd ?_ | refine yxn ?_ _ | refine yxs ?_ (by simp <;> omega) _ | refine yxt ?_ (by assumption)) hb; have HS9 := Lib.hid (HS.out.ext hq); have HX9 := Lib.hid (HX.out.trans hq); have HBS9 := Lib.hid (HBS.out.ext hq); clear m0 m1 ml HS HX HBS; have HS := HS9; have HX := HX9; have HBS := HBS9; clear HS9 HX9 HBS9; obtain ⟨m0, m1, _, _, ml⟩ := HS.out.c2; (try (have q9 := Lib.hid (HSET.out.ext hq); clear HSET; have HSET := q9; clear q9)); clear hq; clear hb))
            go_roundw
            case rel => exact ⟨k + 1, IA, ic, by omega, by go_num, by rw [HN.out], Lib.hid (by rw [HN.out]; exact HSET.out), HS, HX⟩
            case measure => simp [intOf] <;> omega
          | false =>
            rw [hbf, if_neg (by simp)] at hrs
            rw [hbf] at CBF
            have HN := Lib.hid hrs
            clear hrs hbf h1
            go_wp2_with (first | (go_at_call 65; refine Calls.mono (CME.out _) ?_; rintro e9 w4 ⟨IA, ic, rfl, hsl, hb⟩; have HSET := Lib.hid (SL.mono hsl (Ext.size (HX.out.trans (by repeat first | exact yx0 _ | assumption | refine yxa ?_ _ | refine yxd ?_ | refine yxn ?_ _ | refine yxs ?_ (by simp <;> omega) _ | refine yxt ?_ (by assumption))))); have hq := yxx HX.out (by repeat first | exact yx0 _ | assumption | refine yxa ?_ _ | refine yxd ?_ | refine yxn ?_ _ | refine yxs ?_ (by simp <;> omega) _ | refine yxt ?_ (by assumption)) hb; have HS9 := Lib.hid (HS.out.ext hq); have HX9 := Lib.hid (HX.out.trans hq); have HBS9 := Lib.hid (HBS.out.ext hq); clear m0 m1 ml HS HX HBS; have HS := HS9; have HX := HX9; have HBS := HBS9; clear HS9 HX9 HBS9; obtain ⟨m0, m1, _, _, ml⟩ := HS.out.c2; (try (have q9 := Lib.hid (HSET.out.ext hq); clear HSET; have HSET := q9; clear q9)); clear hq; clear hsl hb) | (go_at_call 26; refine Calls.mono (CSH.out _ _ _ (HSR.out.ext (HX.out.trans (by repeat first | exact yx0 _ | assumption | refine yxa ?_ _ | refine yxd ?_ | refine yxn ?_ _ | refine yxs ?_ (by simp <;> omega) _ | refine yxt ?_ (by assumption)))) (HSET.out.ri.ext (by repeat first | exact yx0 _ | assumption | refine yxa ?_ _ | refine yxd ?_ | refine yxn ?_ _ | refine yxs ?_ (by simp <;> omega) _ | refine yxt ?_ (by assumption)))) ?_; rintro e9 w5 ⟨rfl, hb⟩; have hq := yxx HX.out (by repeat first | exact yx0 _ | assumption | refine yxa ?_ _ | refine yxd ?_ | refine yxn ?_ _ | refine yxs ?_ (by simp <;> omega) _ | refine yxt ?_ (by assumption)) hb; have HS9 := Lib.hid (HS.out.ext hq); have HX9 := Lib.hid (HX.out.trans hq); have HBS9 := Lib.hid (HBS.out.ext hq); clear m0 m1 ml HS HX HBS; have HS := HS9; have HX := HX9; have HBS := HBS9; clear HS9 HX9 HBS9; obtain ⟨m0, m1, _, _, ml⟩ := HS.out.c2; (try (have q9 := Lib.hid (HSET.out.ext hq); clear HSET; have HSET := q9; clear q9)); clear hq; clear hb) | (go_at_call 66; refine Calls.mono (CBF.out _ _ _ _ _ (HSET.out.ri.ext (by repeat first | exact yx0 _ | assumption | refine yxa ?_ _ | refine yxd ?_ | refine yxn ?_ _ | refine yxs ?_ (by simp <;> omega) _ | refine yxt ?_ (by assumption))) (HBS.out.ri.ext (by repeat first | exact yx0 _ | assumption | refine yxa ?_ _ | refine yxd ?_ | refine yxn ?_ _ | refine yxs ?_ (by simp <;> omega) _ | refine yxt ?_ (by assumption)))) ?_; rintro e9 w6 ⟨rfl, hb⟩; have hq := yxx HX.out (by repeat first | exact yx0 _ | assumption | refine yxa ?_ _ | refine yxd ?_ | refine yxn ?_ _ | refine yxs ?_ (by simp <;> omega) _ | refine yxt ?_ (by assumption)) hb; have HS9 := Lib.hid (HS.out.ext hq); have HX9 := Lib.hid (HX.out.trans hq); have HBS9 := Lib.hid (HBS.out.ext hq); clear m0 m1 ml HS HX HBS; have HS := HS9; have HX := HX9; have HBS := HBS9; clear HS9 HX9 HBS9; obtain ⟨m0, m1, _, _, ml⟩ := HS.out.c2; (try (have q9 := Lib.hid (HSET.out.ext hq); clear HSET; have HSET := q9; clear q9)); clear hq; clear hb))
            go_roundw
            case rel => exact ⟨k + 1, A9, c9, by omega, by go_num, by rw [HN.out], Lib.hid (by rw [HN.out]; exact HBS.out), HS, HX⟩
            case measure => simp [intOf] <;> omega
        · rw [decide_eq_false (by omega), Bool.false_or, decide_eq_false (by omega), Bool.false_and, if_neg (by simp)] at hrs
          have i3 : ¬ (b.length : Int) < (M.length : Int) := by omega
          have i4 : ((M.length : Int) == (b.length : Int)) = false := by rw [beq_eq_false_iff_ne]; omega
          have HN := Lib.hid hrs
          clear hrs h1
          go_wp2_with (first | (go_at_call 65; refine Calls.mono (CME.out _) ?_; rintro e9 w4 ⟨IA, ic, rfl, hsl, hb⟩; have HSET := Lib.hid (SL.mono hsl (Ext.size (HX.out.trans (by repeat first | exact yx0 _ | assumption | refine yxa ?_ _ | refine yxd ?_ | refine yxn ?_ _ | refine yxs ?_ (by simp <;> omega) _ | refine yxt ?_ (by assumption))))); have hq := yxx HX.out (by repeat first | exact yx0 _ | assumption | refine yxa ?_ _ | refine yxd ?_ | refine yxn ?_ _ | refine yxs ?_ (by simp <;> omega) _ | refine yxt ?_ (by assumption)) hb; have HS9 := Lib.hid (HS.out.ext hq); have HX9 := Lib.hid (HX.out.trans hq); have HBS9 := Lib.hid (HBS.out.ext hq); clear m0 m1 ml HS HX HBS; have HS := HS9; have HX := HX9; have HBS := HBS9; clear HS9 HX9 HBS9; obtain ⟨m0, m1, _, _, ml⟩ := HS.out.c2; (try (have q9 := Lib.hid (HSET.out.ext hq); clear HSET; have HSET := q9; clear q9)); clear hq; clear hsl hb) | (go_at_call 26; refine Calls.mono (CSH.out _ _ _ (HSR.out.ext (HX.out.trans (by repeat first | exact yx0 _ | assumption | refine yxa ?_ _ | refine yxd ?_ | refine yxn ?_ _ | refine yxs ?_ (by simp <;> omega) _ | refine yxt ?_ (by assumption)))) (HSET.out.ri.ext (by repeat first | exact yx0 _ | assumption | refine yxa ?_ _ | refine yxd ?_ | refine yxn ?_ _ | refine yxs ?_ (by simp <;> omega) _ | refine yxt ?_ (by assumption)))) ?_; rintro e9 w5 ⟨rfl, hb⟩; have hq := yxx HX.out (by repeat first | exact yx0 _ | assumption | refine yxa ?_ _ | refine yxd ?_ | refine yxn ?_ _ | refine yxs ?_ (by simp <;> omega) _ | refine yxt ?_ (by assumption)) hb; have HS9 := Lib.hid (HS.out.ext hq); have HX9 := Lib.hid (HX.out.trans hq); have HBS9 := Lib.hid (HBS.out.ext hq); clear m0 m1 ml HS HX HBS; have HS := HS9; have HX := HX9; have HBS := HBS9; clear HS9 HX9 HBS9; obtain ⟨m0, m1, _, _, ml⟩ := HS.out.c2; (try (have q9 := Lib.hid (HSET.out.ext hq); clear HSET; have HSET := q9; clear q9)); clear hq; clear hb) | (go_at_call 66; refine Calls.mono (CBF.out _ _ _ _ _ (HSET.out.ri.ext (by repeat first | exact yx0 _ | assumption | refine yxa ?_ _ | refine yxd ?_ | refine yxn ?_ _ | refine yxs ?_ (by simp <;> omega) _ | refine yxt ?_ (by assumption))) (HBS.out.ri.ext (by repeat first | exact yx0 _ | assumption | refine yxa ?_ _ | refine yxd ?_ | refine yxn ?_ _ | refine yxs ?_ (by simp <;> omega) _ | refine yxt ?_ (by assumption)))) ?_; rintro e9 w6 ⟨rfl, hb⟩; have hq := yxx HX.out (by repeat first | exact yx0 _ | assumption | refine yxa ?_ _ | refine yxd ?_ | refine yxn ?_ _ | refine yxs ?_ (by simp <;> omega) _ | refine yxt ?_ (by assumption)) hb; have HS9 := Lib.hid (HS.out.ext hq); have HX9 := Lib.hid (HX.out.trans hq); have HBS9 := Lib.hid (HBS.out.ext hq); clear m0 m1 ml HS HX HBS; have HS := HS9; have HX := HX9; have HBS := HBS9; clear HS9 HX9 HBS9; obtain ⟨m0, m1, _, _, ml⟩ := HS.out.c2; (try (have q9 := Lib.hid (HSET.out.ext hq); clear HSET; have HSET := q9; clear q9)); clear hq; clear hb))
          go_roundw
          case rel => exact ⟨k + 1, A9, c9, by omega, by go_num, by rw [HN.out], Lib.hid (by rw [HN.out]; exact HBS.out), HS, HX⟩
          case measure => simp [intOf] <;> omega
end Go.Proofs.YtfkjhgcablakgaaGreatDoor
