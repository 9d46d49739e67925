/-
  Walk: the reference's Spaces: one after the other is put in its place.
-/
import Derived.Test.YtaopcpfgmjpliaaDoorSpaces
import Derived.Test.YtaopcpfgmjpliaaDoorTextRef
namespace Go.Proofs.YtaopcpfgmjpliaaDoor
open Go.RowKit Go.Shelf Go.Sort Go.Proofs

theorem Own.mono {w : World} {base base' : Nat} {v : Value} {zs : List Int} (h : Own w base v zs) (hb : base' ≤ base) : Own w base' v zs := by
  refine ⟨h.1, ?_⟩
  rcases h.2 with h' | ⟨g, cap, cur, hv, hg, r⟩
  · exact .inl h'
  · exact .inr ⟨g, cap, cur, hv, by omega, r⟩
theorem own_ne1 {g n : Nat} (h : n ≠ g) : some n ≠ (Value.slice (some ⟨g, 0, none⟩) 0 0).ownBlock := fun e => h (Option.some.inj e)
theorem Own.lit1 (w : World) (o : Obj) : Own ((w.alloc o).alloc (.cells #[] 3)) (w.heap.size + 1) (.slice (some ⟨w.heap.size + 1, 0, none⟩) 0 0) [] := by
  have h := Own.lit0 (w.alloc o)
  rwa [World.size_alloc] at h
theorem RI.empty {w : World} {A : Option Addr} {n : Nat} {zs : List Int} (h : zs.length = n) (h0 : n = 0) : RI w A n zs := ⟨h, by omega, fun h1 => absurd h1 (by omega)⟩
theorem wp_appendI {w : World} {o : Oper} {a : Act} {K : Act → World → Prop} {Q : Exit → Act → World → Prop} (s x : Operand) (ho : o.op = .call { callee := .builtin .append, args := #[s, x], argTypes := #[31, 31] })
    (base : Nat) (v : Value) (zs : List Int) (hs : a.eval s = v) (hown : Own w base v zs) (A : Option Addr) (n c : Nat) (xs : List Int) (hx : a.eval x = .slice A n c) (hr : RI w A n xs) (hlen : zs.length + xs.length ≤ 1000000) (hbase : base ≤ w.heap.size)
    (h : ∀ v' w', Own w' base v' (zs ++ xs) → w.grownBy w' v.ownBlock → K (a.put o.dst v') w') : o.wp Tryd.prog a w K Q := by
  obtain rfl := hr.len
  obtain ⟨v', w', hr', h2, h3⟩ := run_appendI (c := c) hown hr hlen hbase o.type
  unfold Oper.wp execOp
  simp only [ho, resolve, invoke, builtin, Sem.run_bind, Sem.run_pure, Result.andThen_ok, List.map_toArray, List.map_cons, List.map_nil, hs, hx, hr']
  exact h v' w' h2 h3
theorem step_appendI {w : World} {ops : Array Oper} {o : Oper} {a : Act} {K : Act → World → Prop} {Q : Exit → Act → World → Prop} {E : Prop} (hgd : o.guard = none) (s x : Operand) (ho : o.op = .call { callee := .builtin .append, args := #[s, x], argTypes := #[31, 31] })
    (base : Nat) (v : Value) (zs : List Int) (hs : a.eval s = v) (hown : Own w base v zs) (A : Option Addr) (n c : Nat) (xs : List Int) (hx : a.eval x = .slice A n c) (hr : RI w A n xs) (hlen : zs.length + xs.length ≤ 1000000) (hbase : base ≤ w.heap.size)
    (h : ∀ v' w', Own w' base v' (zs ++ xs) → w.grownBy w' v.ownBlock → K (a.put o.dst v') w') : if Region.wanted o (yielded ops a.tmps) = true then Oper.wp Tryd.prog o a w K Q else E := by
  rw [if_pos (by simp [Region.wanted, hgd])]
  exact wp_appendI s x ho base v zs hs hown A n c xs hx hr hlen hbase h
theorem RI.take {w : World} {b off n : Nat} {zs : List Int} (h : RI w (some ⟨b, off, none⟩) n zs) (hb : b < w.heap.size) (t : Nat) (ht : t ≤ n) : RI w (some ⟨b, off, none⟩) t (zs.take t) := by
  refine ⟨by rw [List.length_take, h.1]; omega, by have := h.2.1; omega, fun h0 => ⟨b, off, rfl, hb, fun k hk => ?_⟩⟩
  obtain ⟨b', off', e, _, hc⟩ := h.2.2 (by omega)
  cases e
  rw [hc k (by omega), List.getD_eq_getElem?_getD, List.getD_eq_getElem?_getD, List.getElem?_take_of_lt hk]
theorem RI.drop {w : World} {b off n : Nat} {zs : List Int} (h : RI w (some ⟨b, off, none⟩) n zs) (hb : b < w.heap.size) (t : Nat) (ht : t ≤ n) : RI w (some ⟨b, off + t, none⟩) (n - t) (zs.drop t) := by
  refine ⟨by rw [List.length_drop, h.1], by have := h.2.1; omega, fun h0 => ⟨b, off + t, rfl, hb, fun k hk => ?_⟩⟩
  obtain ⟨b', off', e, _, hc⟩ := h.2.2 (by omega)
  cases e
  rw [show off + t + k = off + (t + k) by omega, hc (t + k) (by omega), List.getD_eq_getElem?_getD, List.getD_eq_getElem?_getD, List.getElem?_drop]
theorem grown_cell {a b : World} {r : Option Nat} {g o : Nat} {v : Value} (hg : a.grownBy b r) (h : a.cell? ⟨g, o, none⟩ = some v) (hne : some g ≠ r) : b.cell? ⟨g, o, none⟩ = some v :=
  (World.cell?_of_block (a := ⟨g, o, none⟩) (hg.block g (cell_lt h) hne)).trans h

set_option maxRecDepth 100000 in
set_option maxHeartbeats 8000000 in
theorem rSpaces_any (f : FT) (A : Option Addr) (c : Nat) (w : World) (hf : FR w A c f) (hten : f.sorts.length ≤ 19) (hwd : ∀ k, k < f.sorts.length → 1 ≤ (f.sorts.getD k TS.zero).width ∧ (f.sorts.getD k TS.zero).width ≤ 100000) :
    Calls Tryd.prog 13 #[f.val A c] w (RetS (spR f.sorts f.sorts.length) w) := by
  have cS := fun A c j b W h1 h2 h3 => rIsSpace_any f A c j b W h1 h2 h3
  have HF := Lib.hid hf; have HW := Lib.hid hwd; clear hf hwd
  have hbig := HF.out.rt.2.1
  have HLK : Hid (∀ k, k ≤ f.sorts.length → (spR f.sorts k).length ≤ k) := Lib.hid fun k hk => spR_len f.sorts k
  have HBD : Hid (∀ k, k ≤ f.sorts.length → ∀ z ∈ spR f.sorts k, 0 ≤ z ∧ z < (k : Int)) := Lib.hid fun k hk => spR_bd f.sorts k
  obtain ⟨name, body, ss⟩ := f
  simp only [FT.val] at *
  have CS := Lib.hid cS; clear cS
  go_enter Tryd.func13, Tryd.ntmps13
  go_wp2
  go_loopw [3, 4] (fun v i wr => ∃ k : Nat, k ≤ ss.length ∧ i = .int .i64 k ∧ SpS w name body A ss.length c wr v (spR ss k)) (fun _ i _ => ss.length - (intOf i).toNat)
  case atStart => exact ⟨0, Nat.zero_le _, rfl, ⟨Box.start w (by repeat (first | exact Ext.refl _ | assumption | refine Ext.alloc ?_ _ | refine Ext.drew ?_ | refine Ext.drewN ?_ _ | (refine Ext.setCell ?_ (by simp <;> omega) _) | refine Ext.trans ?_ (by assumption))), Own.nil _ _, fun _ => rfl⟩⟩
  case round =>
    obtain ⟨k, hk, rfl, hS⟩ := hrel
    have HS := Lib.hid hS
    obtain ⟨k0, k1, k2, kl⟩ := hS.box.blk.c3
    by_cases hlt : k < ss.length
    case neg =>
      obtain rfl : k = ss.length := by omega
      have e9 := HLK.out ss.length (Nat.le_refl _)
      clear hS
      go_wp2
      go_ret
      obtain ⟨A', c', hv, hc', hr'⟩ := HS.out.own.form (by omega)
      subst hv
      exact ⟨A', c', rfl, (SL.of_own HS.out.own (by omega)).mono (Nat.le_succ _) |>.ext (by repeat (first | exact Ext.refl _ | assumption | refine Ext.alloc ?_ _ | refine Ext.drew ?_ | refine Ext.drewN ?_ _ | (refine Ext.setCell ?_ (by simp <;> omega) _) | refine Ext.trans ?_ (by assumption))), HS.out.box.ext.trans (by repeat (first | exact Ext.refl _ | assumption | refine Ext.alloc ?_ _ | refine Ext.drew ?_ | refine Ext.drewN ?_ _ | (refine Ext.setCell ?_ (by simp <;> omega) _) | refine Ext.trans ?_ (by assumption)))⟩
    case pos =>
    obtain ⟨b, off, rfl, hbw, hcell⟩ := (HF.out.rt.ext hS.box.ext).2.2 (by show 0 < ss.length; omega)
    have hki : (k : Int) < (ss.length : Int) := by omega
    have HL := Lib.hid (HLK.out k hk)
    have HB := Lib.hid (HBD.out k hk)
    have HK : Hid (spR ss (k + 1) = if (ss.getD k TS.zero).kind = 3 then insW ss (spR ss k) k else spR ss k) := Lib.hid rfl
    generalize hnx : spR ss (k + 1) = nx at *
    generalize hzk : spR ss k = zk at *
    have HNX := Lib.hid hnx
    clear hnx hzk
    by_cases hk3 : (ss.getD k TS.zero).kind = 3
    case neg =>
      have HN : Hid (nx = zk) := Lib.hid (by rw [HK.out, if_neg hk3])
      have CB := Lib.hid (fun W h => CS.out (some ⟨b, off, none⟩) c k false W h hlt (by rw [decide_eq_false hk3]))
      clear HK hk3 hcell hS
      go_wp2_with (first | (go_at_call 28; refine Calls.mono (CB.out _ ?_) ?_; (exact HF.out.ext (HS.out.box.ext.trans (by repeat (first | exact Ext.refl _ | assumption | refine Ext.alloc ?_ _ | refine Ext.drew ?_ | refine Ext.drewN ?_ _ | (refine Ext.setCell ?_ (by simp <;> omega) _) | refine Ext.trans ?_ (by assumption))))); rintro e w1 ⟨rfl, hb⟩; have HS2 := Lib.hid (HS.out.next (Ext.trans (by repeat (first | exact Ext.refl _ | assumption | refine Ext.alloc ?_ _ | refine Ext.drew ?_ | refine Ext.drewN ?_ _ | (refine Ext.setCell ?_ (by simp <;> omega) _) | refine Ext.trans ?_ (by assumption))) hb)); obtain ⟨k0, k1, k2, kl⟩ := HS2.out.box.blk.c3))
      go_roundw
      case rel => exact ⟨k + 1, by omega, by go_num, by rw [HNX.out, HN.out]; exact HS2.out.next (by repeat (first | exact Ext.refl _ | assumption | refine Ext.alloc ?_ _ | refine Ext.drew ?_ | refine Ext.drewN ?_ _ | (refine Ext.setCell ?_ (by simp <;> omega) _) | refine Ext.trans ?_ (by assumption)))⟩
      case measure => simp [intOf]; omega
    case pos =>
    have HN : Hid (nx = insW ss zk k) := Lib.hid (by rw [HK.out, if_pos hk3])
    have CB := Lib.hid (fun W h => CS.out (some ⟨b, off, none⟩) c k true W h hlt (by rw [decide_eq_true hk3]))
    have hwk := HW.out k hlt
    clear HK hk3 hcell
    obtain ⟨A', c', hv, hc', hr'⟩ := hS.own.form (by have := HL.out; omega)
    have HV := Lib.hid hv
    have hzl : zk.length ≤ 19 := by have := HL.out; omega
    obtain ⟨hw1, hw2⟩ := hwk
    subst hv
    have HRI := Lib.hid hr'
    clear hS hr'
    go_wp2_with (first | (go_at_call 28; refine Calls.mono (CB.out _ ?_) ?_; (exact HF.out.ext (HS.out.box.ext.trans (by repeat (first | exact Ext.refl _ | assumption | refine Ext.alloc ?_ _ | refine Ext.drew ?_ | refine Ext.drewN ?_ _ | (refine Ext.setCell ?_ (by simp <;> omega) _) | refine Ext.trans ?_ (by assumption))))); rintro e w1 ⟨rfl, hb⟩; have HS2 := Lib.hid (HS.out.next (Ext.trans (by repeat (first | exact Ext.refl _ | assumption | refine Ext.alloc ?_ _ | refine Ext.drew ?_ | refine Ext.drewN ?_ _ | (refine Ext.setCell ?_ (by simp <;> omega) _) | refine Ext.trans ?_ (by assumption))) hb)); have HRI2 := Lib.hid (HRI.out.ext (Ext.trans (by repeat (first | exact Ext.refl _ | assumption | refine Ext.alloc ?_ _ | refine Ext.drew ?_ | refine Ext.drewN ?_ _ | (refine Ext.setCell ?_ (by simp <;> omega) _) | refine Ext.trans ?_ (by assumption))) hb)); obtain ⟨k0, k1, k2, kl⟩ := HS2.out.box.blk.c3; clear hb))
    clear HS HRI
    go_loopw [5] (fun t wr => ∃ j : Nat, j ≤ zk.length ∧ t = .int .i64 j ∧ Hid (atTo ss zk k zk.length = atTo ss zk k j) ∧ Ext w1 wr) (fun t _ => (intOf t).toNat)
    case atStart => exact ⟨zk.length, Nat.le_refl _, rfl, Lib.hid rfl, (by repeat (first | exact Ext.refl _ | assumption | refine Ext.alloc ?_ _ | refine Ext.drew ?_ | refine Ext.drewN ?_ _ | (refine Ext.setCell ?_ (by simp <;> omega) _) | refine Ext.trans ?_ (by assumption)))⟩
    case round =>
      obtain ⟨t, ht, rfl, hat, hx⟩ := hrel
      have HX := Lib.hid hx
      clear k0 k1 k2 kl
      obtain ⟨k0, k1, k2, kl⟩ := (HS2.out.next hx).box.blk.c3
      obtain ⟨b2, off2, hbe, hbw2, hcell⟩ := (HF.out.rt.ext ((HS2.out.next hx).box.ext)).2.2 (by show 0 < ss.length; omega)
      cases hbe
      have c4 := (hcell k hlt).2.2.2
      by_cases h0 : zk = []
      case pos =>
        obtain ⟨rfl, _, rfl⟩ := Value.slice.inj (HS2.out.none_ h0)
        subst h0
        obtain rfl : t = 0 := by simpa using ht
        have HINS : Hid (nx = [] ++ [(k : Int)] ++ []) := Lib.hid (by rw [HN.out]; rfl)
        clear hx HN HB HL HRI2 HV
        have HLA : Hid (∀ n, Own ((wr.drewN n).alloc (.cells #[] 3)) wr.heap.size (.slice (some ⟨wr.heap.size, 0, none⟩) 0 0) []) := Lib.hid (fun n => Own.lit0 (wr.drewN n))
        have HLC : Hid (∀ n, Own (((wr.drewN n).alloc (.cells #[.int .i64 (k : Int)] 3)).alloc (.cells #[] 3)) wr.heap.size (.slice (some ⟨wr.heap.size + 1, 0, none⟩) 0 0) []) := Lib.hid (fun n => (Own.lit1 (wr.drewN n) _).mono (Nat.le_succ _))
        go_wp2
        go_quiet (fail)
        go_wp2
        go_region_held3 (fun _ => True) (trivial)
          (first | (refine step_appendI rfl (.tmp 42) (.tmp 45) rfl wr.heap.size (.slice (some ⟨wr.heap.size, 0, none⟩) 0 0) [] rfl ((HLA.out _).ext (by repeat (first | exact Ext.refl _ | assumption | refine Ext.alloc ?_ _ | refine Ext.drew ?_ | refine Ext.drewN ?_ _ | (refine Ext.setCell ?_ (by simp <;> omega) _) | refine Ext.trans ?_ (by assumption)))) _ _ _ [] rfl (RI.nil) (by first | omega | (simp; done) | (simp; omega)) (by first | omega | (simp; done) | (simp; omega)) ?_; intro v1 W1 ho1 hg1; have HX1 := Lib.hid (show Ext wr W1 from Ext.grown (by repeat (first | exact Ext.refl _ | assumption | refine Ext.alloc ?_ _ | refine Ext.drew ?_ | refine Ext.drewN ?_ _ | (refine Ext.setCell ?_ (by simp <;> omega) _) | refine Ext.trans ?_ (by assumption))) hg1 (by intro g9 hg9; have h9 : some (wr.heap.size) = some g9 := hg9; injection h9 with h9; omega)); have HO1 := Lib.hid ho1; have HG1 := Lib.hid hg1; clear ho1 hg1) | (refine step_appendI rfl (.tmp 42) (.tmp 45) rfl wr.heap.size (.slice (some ⟨wr.heap.size + 1, 0, none⟩) 0 0) [] rfl ((HLC.out _).ext (by repeat (first | exact Ext.refl _ | assumption | refine Ext.alloc ?_ _ | refine Ext.drew ?_ | refine Ext.drewN ?_ _ | (refine Ext.setCell ?_ (by simp <;> omega) _) | refine Ext.trans ?_ (by assumption)))) _ _ _ [] rfl (RI.nil) (by first | omega | (simp; done) | (simp; omega)) (by first | omega | (simp; done) | (simp; omega)) ?_; intro v1 W1 ho1 hg1; have HX1 := Lib.hid (show Ext wr W1 from Ext.grown (by repeat (first | exact Ext.refl _ | assumption | refine Ext.alloc ?_ _ | refine Ext.drew ?_ | refine Ext.drewN ?_ _ | (refine Ext.setCell ?_ (by simp <;> omega) _) | refine Ext.trans ?_ (by assumption))) hg1 (by intro g9 hg9; have h9 : some (wr.heap.size + 1) = some g9 := hg9; injection h9 with h9; omega)); have HO1 := Lib.hid ho1; have HG1 := Lib.hid hg1; clear ho1 hg1) | (refine step_push rfl (.tmp 46) (.tmp 48) rfl wr.heap.size _ [] rfl (HO1.out.ext (by repeat (first | exact Ext.refl _ | assumption | refine Ext.alloc ?_ _ | refine Ext.drew ?_ | refine Ext.drewN ?_ _ | (refine Ext.setCell ?_ (by simp <;> omega) _) | refine Ext.trans ?_ (by assumption)))) _ (k : Int) rfl (by first | (simp; done) | exact grown_cell HG1.out (by first | exact (Blk.new1 _ _ _ _).cell 0 _ rfl | exact ((Blk.new _ _ _).alloc _).cell 0 _ rfl) (own_ne1 (by first | omega | (show wr.heap.size + 1 ≠ wr.heap.size; omega) | (show wr.heap.size ≠ wr.heap.size + 1; omega)))) (by first | omega | (simp; done) | (simp; omega)) (by have := HX1.out.size; first | omega | (simp; omega)) ?_; intro v2 W2 ho2 hg2; have HX2 := Lib.hid (show Ext wr W2 from own_ext hg2 (HO1.out.ext (by repeat (first | exact Ext.refl _ | assumption | refine Ext.alloc ?_ _ | refine Ext.drew ?_ | refine Ext.drewN ?_ _ | (refine Ext.setCell ?_ (by simp <;> omega) _) | refine Ext.trans ?_ (by assumption)))) (HX1.out.trans (by repeat (first | exact Ext.refl _ | assumption | refine Ext.alloc ?_ _ | refine Ext.drew ?_ | refine Ext.drewN ?_ _ | (refine Ext.setCell ?_ (by simp <;> omega) _) | refine Ext.trans ?_ (by assumption))))); have HO2 := Lib.hid ho2; clear ho2 hg2) | (refine step_appendI rfl (.tmp 49) (.tmp 52) rfl wr.heap.size _ ([] ++ [(k : Int)]) rfl (HO2.out.ext (by repeat (first | exact Ext.refl _ | assumption | refine Ext.alloc ?_ _ | refine Ext.drew ?_ | refine Ext.drewN ?_ _ | (refine Ext.setCell ?_ (by simp <;> omega) _) | refine Ext.trans ?_ (by assumption)))) _ _ _ [] rfl (RI.nil) (by first | omega | (simp; done) | (simp; omega)) (by have := HX2.out.size; first | omega | (simp; omega)) ?_; intro v3 W3 ho3 hg3; have HX3 := Lib.hid (show Ext wr W3 from own_ext hg3 (HO2.out.ext (by repeat (first | exact Ext.refl _ | assumption | refine Ext.alloc ?_ _ | refine Ext.drew ?_ | refine Ext.drewN ?_ _ | (refine Ext.setCell ?_ (by simp <;> omega) _) | refine Ext.trans ?_ (by assumption)))) (HX2.out.trans (by repeat (first | exact Ext.refl _ | assumption | refine Ext.alloc ?_ _ | refine Ext.drew ?_ | refine Ext.drewN ?_ _ | (refine Ext.setCell ?_ (by simp <;> omega) _) | refine Ext.trans ?_ (by assumption))))); have HO3 := Lib.hid ho3; clear ho3 hg3))
        all_goals go_wp2
        all_goals go_roundw
        all_goals (try (case rel => exact ⟨k + 1, by omega, by go_num, by rw [HNX.out, HINS.out]; exact ⟨HS2.out.box.next (HX.out.trans (HX3.out.trans (by repeat (first | exact Ext.refl _ | assumption | refine Ext.alloc ?_ _ | refine Ext.drew ?_ | refine Ext.drewN ?_ _ | (refine Ext.setCell ?_ (by simp <;> omega) _) | refine Ext.trans ?_ (by assumption))))), (HO3.out.mono (by have := HS2.out.box.blk.lt; have := HX.out.size; omega)).ext (by repeat (first | exact Ext.refl _ | assumption | refine Ext.alloc ?_ _ | refine Ext.drew ?_ | refine Ext.drewN ?_ _ | (refine Ext.setCell ?_ (by simp <;> omega) _) | refine Ext.trans ?_ (by assumption))), fun e => by simp at e⟩⟩))
        all_goals (try (case measure => simp [intOf]; omega))
      case neg =>
      obtain ⟨g, o, rfl, hgw, hz⟩ := HRI2.out.2.2 (by
        rcases Nat.eq_zero_or_pos zk.length with h | h
        · exact absurd (List.eq_nil_of_length_eq_zero h) h0
        · exact h)
      have hgr : g < wr.heap.size := Nat.lt_of_lt_of_le hgw hx.size
      have HTK := Lib.hid ((HRI2.out.ext hx).take hgr t ht)
      have HDR := Lib.hid ((HRI2.out.ext hx).drop hgr t ht)
      have hti : (t : Int) ≤ (zk.length : Int) := by omega
      have htl : (zk.take t).length ≤ 19 := by rw [List.length_take]; omega
      have hdl : (zk.drop t).length ≤ 19 := by rw [List.length_drop]; omega
      by_cases ht0 : t = 0
      case pos =>
        subst ht0
        have HINS : Hid (nx = zk.take 0 ++ [(k : Int)] ++ zk.drop 0) := Lib.hid (by rw [HN.out]; unfold insW; rw [hat.out]; rfl)
        generalize zk.take 0 = tk at *
        generalize zk.drop 0 = dr at *
        clear hx HN HB HL hz
        have HLA : Hid (∀ n, Own ((wr.drewN n).alloc (.cells #[] 3)) wr.heap.size (.slice (some ⟨wr.heap.size, 0, none⟩) 0 0) []) := Lib.hid (fun n => Own.lit0 (wr.drewN n))
        have HLC : Hid (∀ n, Own (((wr.drewN n).alloc (.cells #[.int .i64 (k : Int)] 3)).alloc (.cells #[] 3)) wr.heap.size (.slice (some ⟨wr.heap.size + 1, 0, none⟩) 0 0) []) := Lib.hid (fun n => (Own.lit1 (wr.drewN n) _).mono (Nat.le_succ _))
        go_wp2
        go_quiet (fail)
        go_wp2
        go_region_held3 (fun _ => True) (trivial)
          (first | (refine step_appendI rfl (.tmp 42) (.tmp 45) rfl wr.heap.size (.slice (some ⟨wr.heap.size, 0, none⟩) 0 0) [] rfl ((HLA.out _).ext (by repeat (first | exact Ext.refl _ | assumption | refine Ext.alloc ?_ _ | refine Ext.drew ?_ | refine Ext.drewN ?_ _ | (refine Ext.setCell ?_ (by simp <;> omega) _) | refine Ext.trans ?_ (by assumption)))) _ _ _ tk rfl (HTK.out.ext (by repeat (first | exact Ext.refl _ | assumption | refine Ext.alloc ?_ _ | refine Ext.drew ?_ | refine Ext.drewN ?_ _ | (refine Ext.setCell ?_ (by simp <;> omega) _) | refine Ext.trans ?_ (by assumption)))) (by first | omega | (simp; done) | (simp; omega)) (by first | omega | (simp; done) | (simp; omega)) ?_; intro v1 W1 ho1 hg1; have HX1 := Lib.hid (show Ext wr W1 from Ext.grown (by repeat (first | exact Ext.refl _ | assumption | refine Ext.alloc ?_ _ | refine Ext.drew ?_ | refine Ext.drewN ?_ _ | (refine Ext.setCell ?_ (by simp <;> omega) _) | refine Ext.trans ?_ (by assumption))) hg1 (by intro g9 hg9; have h9 : some (wr.heap.size) = some g9 := hg9; injection h9 with h9; omega)); have HO1 := Lib.hid ho1; have HG1 := Lib.hid hg1; clear ho1 hg1) | (refine step_appendI rfl (.tmp 42) (.tmp 45) rfl wr.heap.size (.slice (some ⟨wr.heap.size + 1, 0, none⟩) 0 0) [] rfl ((HLC.out _).ext (by repeat (first | exact Ext.refl _ | assumption | refine Ext.alloc ?_ _ | refine Ext.drew ?_ | refine Ext.drewN ?_ _ | (refine Ext.setCell ?_ (by simp <;> omega) _) | refine Ext.trans ?_ (by assumption)))) _ _ _ tk rfl (HTK.out.ext (by repeat (first | exact Ext.refl _ | assumption | refine Ext.alloc ?_ _ | refine Ext.drew ?_ | refine Ext.drewN ?_ _ | (refine Ext.setCell ?_ (by simp <;> omega) _) | refine Ext.trans ?_ (by assumption)))) (by first | omega | (simp; done) | (simp; omega)) (by first | omega | (simp; done) | (simp; omega)) ?_; intro v1 W1 ho1 hg1; have HX1 := Lib.hid (show Ext wr W1 from Ext.grown (by repeat (first | exact Ext.refl _ | assumption | refine Ext.alloc ?_ _ | refine Ext.drew ?_ | refine Ext.drewN ?_ _ | (refine Ext.setCell ?_ (by simp <;> omega) _) | refine Ext.trans ?_ (by assumption))) hg1 (by intro g9 hg9; have h9 : some (wr.heap.size + 1) = some g9 := hg9; injection h9 with h9; omega)); have HO1 := Lib.hid ho1; have HG1 := Lib.hid hg1; clear ho1 hg1) | (refine step_push rfl (.tmp 46) (.tmp 48) rfl wr.heap.size _ tk rfl (HO1.out.ext (by repeat (first | exact Ext.refl _ | assumption | refine Ext.alloc ?_ _ | refine Ext.drew ?_ | refine Ext.drewN ?_ _ | (refine Ext.setCell ?_ (by simp <;> omega) _) | refine Ext.trans ?_ (by assumption)))) _ (k : Int) rfl (by first | (simp; done) | exact grown_cell HG1.out (by first | exact (Blk.new1 _ _ _ _).cell 0 _ rfl | exact ((Blk.new _ _ _).alloc _).cell 0 _ rfl) (own_ne1 (by first | omega | (show wr.heap.size + 1 ≠ wr.heap.size; omega) | (show wr.heap.size ≠ wr.heap.size + 1; omega)))) (by first | omega | (simp; done) | (simp; omega)) (by have := HX1.out.size; first | omega | (simp; omega)) ?_; intro v2 W2 ho2 hg2; have HX2 := Lib.hid (show Ext wr W2 from own_ext hg2 (HO1.out.ext (by repeat (first | exact Ext.refl _ | assumption | refine Ext.alloc ?_ _ | refine Ext.drew ?_ | refine Ext.drewN ?_ _ | (refine Ext.setCell ?_ (by simp <;> omega) _) | refine Ext.trans ?_ (by assumption)))) (HX1.out.trans (by repeat (first | exact Ext.refl _ | assumption | refine Ext.alloc ?_ _ | refine Ext.drew ?_ | refine Ext.drewN ?_ _ | (refine Ext.setCell ?_ (by simp <;> omega) _) | refine Ext.trans ?_ (by assumption))))); have HO2 := Lib.hid ho2; clear ho2 hg2) | (refine step_appendI rfl (.tmp 49) (.tmp 52) rfl wr.heap.size _ (tk ++ [(k : Int)]) rfl (HO2.out.ext (by repeat (first | exact Ext.refl _ | assumption | refine Ext.alloc ?_ _ | refine Ext.drew ?_ | refine Ext.drewN ?_ _ | (refine Ext.setCell ?_ (by simp <;> omega) _) | refine Ext.trans ?_ (by assumption)))) _ _ _ dr rfl (HDR.out.ext (HX2.out.trans (by repeat (first | exact Ext.refl _ | assumption | refine Ext.alloc ?_ _ | refine Ext.drew ?_ | refine Ext.drewN ?_ _ | (refine Ext.setCell ?_ (by simp <;> omega) _) | refine Ext.trans ?_ (by assumption))))) (by first | omega | (simp; done) | (simp; omega)) (by have := HX2.out.size; first | omega | (simp; omega)) ?_; intro v3 W3 ho3 hg3; have HX3 := Lib.hid (show Ext wr W3 from own_ext hg3 (HO2.out.ext (by repeat (first | exact Ext.refl _ | assumption | refine Ext.alloc ?_ _ | refine Ext.drew ?_ | refine Ext.drewN ?_ _ | (refine Ext.setCell ?_ (by simp <;> omega) _) | refine Ext.trans ?_ (by assumption)))) (HX2.out.trans (by repeat (first | exact Ext.refl _ | assumption | refine Ext.alloc ?_ _ | refine Ext.drew ?_ | refine Ext.drewN ?_ _ | (refine Ext.setCell ?_ (by simp <;> omega) _) | refine Ext.trans ?_ (by assumption))))); have HO3 := Lib.hid ho3; clear ho3 hg3))
        all_goals go_wp2
        all_goals go_roundw
        all_goals (try (case rel => exact ⟨k + 1, by omega, by go_num, by rw [HNX.out, HINS.out]; exact ⟨HS2.out.box.next (HX.out.trans (HX3.out.trans (by repeat (first | exact Ext.refl _ | assumption | refine Ext.alloc ?_ _ | refine Ext.drew ?_ | refine Ext.drewN ?_ _ | (refine Ext.setCell ?_ (by simp <;> omega) _) | refine Ext.trans ?_ (by assumption))))), (HO3.out.mono (by have := HS2.out.box.blk.lt; have := HX.out.size; omega)).ext (by repeat (first | exact Ext.refl _ | assumption | refine Ext.alloc ?_ _ | refine Ext.drew ?_ | refine Ext.drewN ?_ _ | (refine Ext.setCell ?_ (by simp <;> omega) _) | refine Ext.trans ?_ (by assumption))), fun e => by simp at e⟩⟩))
        all_goals (try (case measure => simp [intOf]; omega))
      case neg =>
        obtain ⟨p, rfl⟩ : ∃ p, t = p + 1 := ⟨t - 1, by omega⟩
        have c1 := (hx.cell (p := ⟨g, o + p, none⟩) hgw).trans (hz p (by omega))
        have hb9 := HB.out _ (getD_mem' (show p < zk.length by omega))
        obtain ⟨j, hj⟩ : ∃ j : Nat, zk.getD p 0 = (j : Int) := ⟨(zk.getD p 0).toNat, by omega⟩
        rw [hj] at c1 hb9
        have hjl : j < ss.length := by omega
        have hji : (j : Int) < (ss.length : Int) := by omega
        have c5 := (hcell j hjl).2.2.2
        have HAT : Hid (atTo ss zk k (p + 1) = if (ss.getD k TS.zero).width < (ss.getD j TS.zero).width then atTo ss zk k p else p + 1) := Lib.hid (by
          rw [atTo, hj]; unfold widZ; rw [Int.toNat_natCast, Int.toNat_natCast])
        have hwj := HW.out j hjl
        have hp1 : (p : Int) < (zk.length : Int) := by omega
        have hp2 : (0 : Int) ≤ (p : Int) + 1 := by omega
        have hp3 : (p : Int) + 1 ≤ (zk.length : Int) := by omega
        have hp4 : p + 1 ≤ zk.length := by omega
        have hp5 : (zk.length : Int) ≤ (c' : Int) := by omega
        have hp6 : (p : Int) + 1 ≤ (c' : Int) := by omega
        clear hcell hz
        generalize (ss.getD k TS.zero).width = wk at *
        generalize (ss.getD j TS.zero).width = wj at *
        by_cases hd : wk < wj
        case pos =>
          have HA2 : Hid (atTo ss zk k (p + 1) = atTo ss zk k p) := Lib.hid (by rw [HAT.out, if_pos hd])
          clear hx HB HL HN
          go_wp2
          go_quiet (fail)
          go_wp2
          go_roundw
          case rel => exact ⟨p, by omega, by go_num, Lib.hid (hat.out.trans HA2.out), HX.out.trans (by repeat (first | exact Ext.refl _ | assumption | refine Ext.alloc ?_ _ | refine Ext.drew ?_ | refine Ext.drewN ?_ _ | (refine Ext.setCell ?_ (by simp <;> omega) _) | refine Ext.trans ?_ (by assumption)))⟩
          case measure => simp [intOf]
        case neg =>
        have hd9 : decide (wk < wj) = false := by simpa using hd
        have HINS : Hid (nx = zk.take (p + 1) ++ [(k : Int)] ++ zk.drop (p + 1)) := Lib.hid (by
          have e : atTo ss zk k zk.length = p + 1 := by rw [hat.out, HAT.out, if_neg hd]
          rw [HN.out]; unfold insW; rw [e])
        by_cases hcp : c' = p + 1
        case pos =>
          have HD0 : Hid (RI wr (some ⟨g, o, none⟩) 0 (zk.drop (p + 1))) := Lib.hid (RI.empty (by rw [List.length_drop]; omega) rfl)
          clear HDR
          have HDR := HD0
          clear HD0
          obtain rfl := hcp
          generalize zk.take (p + 1) = tk at *
          generalize zk.drop (p + 1) = dr at *
          clear hx HN HB HL hd hp3 hp4 hp5 hp6
          have hp3 : (p : Int) + 1 ≤ (zk.length : Int) := by omega
          have hp4 : p + 1 ≤ zk.length := by omega
          have HLA : Hid (∀ n, Own ((wr.drewN n).alloc (.cells #[] 3)) wr.heap.size (.slice (some ⟨wr.heap.size, 0, none⟩) 0 0) []) := Lib.hid (fun n => Own.lit0 (wr.drewN n))
          have HLC : Hid (∀ n, Own (((wr.drewN n).alloc (.cells #[.int .i64 (k : Int)] 3)).alloc (.cells #[] 3)) wr.heap.size (.slice (some ⟨wr.heap.size + 1, 0, none⟩) 0 0) []) := Lib.hid (fun n => (Own.lit1 (wr.drewN n) _).mono (Nat.le_succ _))
          go_wp2
          go_quiet (fail)
          go_wp2
          go_region_held3 (fun _ => True) (trivial)
            (first | (refine step_appendI rfl (.tmp 42) (.tmp 45) rfl wr.heap.size (.slice (some ⟨wr.heap.size, 0, none⟩) 0 0) [] rfl ((HLA.out _).ext (by repeat (first | exact Ext.refl _ | assumption | refine Ext.alloc ?_ _ | refine Ext.drew ?_ | refine Ext.drewN ?_ _ | (refine Ext.setCell ?_ (by simp <;> omega) _) | refine Ext.trans ?_ (by assumption)))) _ _ _ tk rfl (HTK.out.ext (by repeat (first | exact Ext.refl _ | assumption | refine Ext.alloc ?_ _ | refine Ext.drew ?_ | refine Ext.drewN ?_ _ | (refine Ext.setCell ?_ (by simp <;> omega) _) | refine Ext.trans ?_ (by assumption)))) (by first | omega | (simp; done) | (simp; omega)) (by first | omega | (simp; done) | (simp; omega)) ?_; intro v1 W1 ho1 hg1; have HX1 := Lib.hid (show Ext wr W1 from Ext.grown (by repeat (first | exact Ext.refl _ | assumption | refine Ext.alloc ?_ _ | refine Ext.drew ?_ | refine Ext.drewN ?_ _ | (refine Ext.setCell ?_ (by simp <;> omega) _) | refine Ext.trans ?_ (by assumption))) hg1 (by intro g9 hg9; have h9 : some (wr.heap.size) = some g9 := hg9; injection h9 with h9; omega)); have HO1 := Lib.hid ho1; have HG1 := Lib.hid hg1; clear ho1 hg1) | (refine step_appendI rfl (.tmp 42) (.tmp 45) rfl wr.heap.size (.slice (some ⟨wr.heap.size + 1, 0, none⟩) 0 0) [] rfl ((HLC.out _).ext (by repeat (first | exact Ext.refl _ | assumption | refine Ext.alloc ?_ _ | refine Ext.drew ?_ | refine Ext.drewN ?_ _ | (refine Ext.setCell ?_ (by simp <;> omega) _) | refine Ext.trans ?_ (by assumption)))) _ _ _ tk rfl (HTK.out.ext (by repeat (first | exact Ext.refl _ | assumption | refine Ext.alloc ?_ _ | refine Ext.drew ?_ | refine Ext.drewN ?_ _ | (refine Ext.setCell ?_ (by simp <;> omega) _) | refine Ext.trans ?_ (by assumption)))) (by first | omega | (simp; done) | (simp; omega)) (by first | omega | (simp; done) | (simp; omega)) ?_; intro v1 W1 ho1 hg1; have HX1 := Lib.hid (show Ext wr W1 from Ext.grown (by repeat (first | exact Ext.refl _ | assumption | refine Ext.alloc ?_ _ | refine Ext.drew ?_ | refine Ext.drewN ?_ _ | (refine Ext.setCell ?_ (by simp <;> omega) _) | refine Ext.trans ?_ (by assumption))) hg1 (by intro g9 hg9; have h9 : some (wr.heap.size + 1) = some g9 := hg9; injection h9 with h9; omega)); have HO1 := Lib.hid ho1; have HG1 := Lib.hid hg1; clear ho1 hg1) | (refine step_push rfl (.tmp 46) (.tmp 48) rfl wr.heap.size _ tk rfl (HO1.out.ext (by repeat (first | exact Ext.refl _ | assumption | refine Ext.alloc ?_ _ | refine Ext.drew ?_ | refine Ext.drewN ?_ _ | (refine Ext.setCell ?_ (by simp <;> omega) _) | refine Ext.trans ?_ (by assumption)))) _ (k : Int) rfl (by first | (simp; done) | exact grown_cell HG1.out (by first | exact (Blk.new1 _ _ _ _).cell 0 _ rfl | exact ((Blk.new _ _ _).alloc _).cell 0 _ rfl) (own_ne1 (by first | omega | (show wr.heap.size + 1 ≠ wr.heap.size; omega) | (show wr.heap.size ≠ wr.heap.size + 1; omega)))) (by first | omega | (simp; done) | (simp; omega)) (by have := HX1.out.size; first | omega | (simp; omega)) ?_; intro v2 W2 ho2 hg2; have HX2 := Lib.hid (show Ext wr W2 from own_ext hg2 (HO1.out.ext (by repeat (first | exact Ext.refl _ | assumption | refine Ext.alloc ?_ _ | refine Ext.drew ?_ | refine Ext.drewN ?_ _ | (refine Ext.setCell ?_ (by simp <;> omega) _) | refine Ext.trans ?_ (by assumption)))) (HX1.out.trans (by repeat (first | exact Ext.refl _ | assumption | refine Ext.alloc ?_ _ | refine Ext.drew ?_ | refine Ext.drewN ?_ _ | (refine Ext.setCell ?_ (by simp <;> omega) _) | refine Ext.trans ?_ (by assumption))))); have HO2 := Lib.hid ho2; clear ho2 hg2) | (refine step_appendI rfl (.tmp 49) (.tmp 52) rfl wr.heap.size _ (tk ++ [(k : Int)]) rfl (HO2.out.ext (by repeat (first | exact Ext.refl _ | assumption | refine Ext.alloc ?_ _ | refine Ext.drew ?_ | refine Ext.drewN ?_ _ | (refine Ext.setCell ?_ (by simp <;> omega) _) | refine Ext.trans ?_ (by assumption)))) _ _ _ dr rfl (HDR.out.ext (HX2.out.trans (by repeat (first | exact Ext.refl _ | assumption | refine Ext.alloc ?_ _ | refine Ext.drew ?_ | refine Ext.drewN ?_ _ | (refine Ext.setCell ?_ (by simp <;> omega) _) | refine Ext.trans ?_ (by assumption))))) (by first | omega | (simp; done) | (simp; omega)) (by have := HX2.out.size; first | omega | (simp; omega)) ?_; intro v3 W3 ho3 hg3; have HX3 := Lib.hid (show Ext wr W3 from own_ext hg3 (HO2.out.ext (by repeat (first | exact Ext.refl _ | assumption | refine Ext.alloc ?_ _ | refine Ext.drew ?_ | refine Ext.drewN ?_ _ | (refine Ext.setCell ?_ (by simp <;> omega) _) | refine Ext.trans ?_ (by assumption)))) (HX2.out.trans (by repeat (first | exact Ext.refl _ | assumption | refine Ext.alloc ?_ _ | refine Ext.drew ?_ | refine Ext.drewN ?_ _ | (refine Ext.setCell ?_ (by simp <;> omega) _) | refine Ext.trans ?_ (by assumption))))); have HO3 := Lib.hid ho3; clear ho3 hg3))
          all_goals go_wp2
          all_goals go_roundw
          all_goals (try (case rel => exact ⟨k + 1, by omega, by go_num, by rw [HNX.out, HINS.out]; exact ⟨HS2.out.box.next (HX.out.trans (HX3.out.trans (by repeat (first | exact Ext.refl _ | assumption | refine Ext.alloc ?_ _ | refine Ext.drew ?_ | refine Ext.drewN ?_ _ | (refine Ext.setCell ?_ (by simp <;> omega) _) | refine Ext.trans ?_ (by assumption))))), (HO3.out.mono (by have := HS2.out.box.blk.lt; have := HX.out.size; omega)).ext (by repeat (first | exact Ext.refl _ | assumption | refine Ext.alloc ?_ _ | refine Ext.drew ?_ | refine Ext.drewN ?_ _ | (refine Ext.setCell ?_ (by simp <;> omega) _) | refine Ext.trans ?_ (by assumption))), fun e => by simp at e⟩⟩))
          all_goals (try (case measure => simp [intOf]; omega))
  
        case neg =>
        generalize zk.take (p + 1) = tk at *
        generalize zk.drop (p + 1) = dr at *
        clear hx HN HB HL hd
        have HLA : Hid (∀ n, Own ((wr.drewN n).alloc (.cells #[] 3)) wr.heap.size (.slice (some ⟨wr.heap.size, 0, none⟩) 0 0) []) := Lib.hid (fun n => Own.lit0 (wr.drewN n))
        have HLC : Hid (∀ n, Own (((wr.drewN n).alloc (.cells #[.int .i64 (k : Int)] 3)).alloc (.cells #[] 3)) wr.heap.size (.slice (some ⟨wr.heap.size + 1, 0, none⟩) 0 0) []) := Lib.hid (fun n => (Own.lit1 (wr.drewN n) _).mono (Nat.le_succ _))
        go_wp2
        go_quiet (fail)
        go_wp2
        go_region_held3 (fun _ => True) (trivial)
          (first | (refine step_appendI rfl (.tmp 42) (.tmp 45) rfl wr.heap.size (.slice (some ⟨wr.heap.size, 0, none⟩) 0 0) [] rfl ((HLA.out _).ext (by repeat (first | exact Ext.refl _ | assumption | refine Ext.alloc ?_ _ | refine Ext.drew ?_ | refine Ext.drewN ?_ _ | (refine Ext.setCell ?_ (by simp <;> omega) _) | refine Ext.trans ?_ (by assumption)))) _ _ _ tk rfl (HTK.out.ext (by repeat (first | exact Ext.refl _ | assumption | refine Ext.alloc ?_ _ | refine Ext.drew ?_ | refine Ext.drewN ?_ _ | (refine Ext.setCell ?_ (by simp <;> omega) _) | refine Ext.trans ?_ (by assumption)))) (by first | omega | (simp; done) | (simp; omega)) (by first | omega | (simp; done) | (simp; omega)) ?_; intro v1 W1 ho1 hg1; have HX1 := Lib.hid (show Ext wr W1 from Ext.grown (by repeat (first | exact Ext.refl _ | assumption | refine Ext.alloc ?_ _ | refine Ext.drew ?_ | refine Ext.drewN ?_ _ | (refine Ext.setCell ?_ (by simp <;> omega) _) | refine Ext.trans ?_ (by assumption))) hg1 (by intro g9 hg9; have h9 : some (wr.heap.size) = some g9 := hg9; injection h9 with h9; omega)); have HO1 := Lib.hid ho1; have HG1 := Lib.hid hg1; clear ho1 hg1) | (refine step_appendI rfl (.tmp 42) (.tmp 45) rfl wr.heap.size (.slice (some ⟨wr.heap.size + 1, 0, none⟩) 0 0) [] rfl ((HLC.out _).ext (by repeat (first | exact Ext.refl _ | assumption | refine Ext.alloc ?_ _ | refine Ext.drew ?_ | refine Ext.drewN ?_ _ | (refine Ext.setCell ?_ (by simp <;> omega) _) | refine Ext.trans ?_ (by assumption)))) _ _ _ tk rfl (HTK.out.ext (by repeat (first | exact Ext.refl _ | assumption | refine Ext.alloc ?_ _ | refine Ext.drew ?_ | refine Ext.drewN ?_ _ | (refine Ext.setCell ?_ (by simp <;> omega) _) | refine Ext.trans ?_ (by assumption)))) (by first | omega | (simp; done) | (simp; omega)) (by first | omega | (simp; done) | (simp; omega)) ?_; intro v1 W1 ho1 hg1; have HX1 := Lib.hid (show Ext wr W1 from Ext.grown (by repeat (first | exact Ext.refl _ | assumption | refine Ext.alloc ?_ _ | refine Ext.drew ?_ | refine Ext.drewN ?_ _ | (refine Ext.setCell ?_ (by simp <;> omega) _) | refine Ext.trans ?_ (by assumption))) hg1 (by intro g9 hg9; have h9 : some (wr.heap.size + 1) = some g9 := hg9; injection h9 with h9; omega)); have HO1 := Lib.hid ho1; have HG1 := Lib.hid hg1; clear ho1 hg1) | (refine step_push rfl (.tmp 46) (.tmp 48) rfl wr.heap.size _ tk rfl (HO1.out.ext (by repeat (first | exact Ext.refl _ | assumption | refine Ext.alloc ?_ _ | refine Ext.drew ?_ | refine Ext.drewN ?_ _ | (refine Ext.setCell ?_ (by simp <;> omega) _) | refine Ext.trans ?_ (by assumption)))) _ (k : Int) rfl (by first | (simp; done) | exact grown_cell HG1.out (by first | exact (Blk.new1 _ _ _ _).cell 0 _ rfl | exact ((Blk.new _ _ _).alloc _).cell 0 _ rfl) (own_ne1 (by first | omega | (show wr.heap.size + 1 ≠ wr.heap.size; omega) | (show wr.heap.size ≠ wr.heap.size + 1; omega)))) (by first | omega | (simp; done) | (simp; omega)) (by have := HX1.out.size; first | omega | (simp; omega)) ?_; intro v2 W2 ho2 hg2; have HX2 := Lib.hid (show Ext wr W2 from own_ext hg2 (HO1.out.ext (by repeat (first | exact Ext.refl _ | assumption | refine Ext.alloc ?_ _ | refine Ext.drew ?_ | refine Ext.drewN ?_ _ | (refine Ext.setCell ?_ (by simp <;> omega) _) | refine Ext.trans ?_ (by assumption)))) (HX1.out.trans (by repeat (first | exact Ext.refl _ | assumption | refine Ext.alloc ?_ _ | refine Ext.drew ?_ | refine Ext.drewN ?_ _ | (refine Ext.setCell ?_ (by simp <;> omega) _) | refine Ext.trans ?_ (by assumption))))); have HO2 := Lib.hid ho2; clear ho2 hg2) | (refine step_appendI rfl (.tmp 49) (.tmp 52) rfl wr.heap.size _ (tk ++ [(k : Int)]) rfl (HO2.out.ext (by repeat (first | exact Ext.refl _ | assumption | refine Ext.alloc ?_ _ | refine Ext.drew ?_ | refine Ext.drewN ?_ _ | (refine Ext.setCell ?_ (by simp <;> omega) _) | refine Ext.trans ?_ (by assumption)))) _ _ _ dr rfl (HDR.out.ext (HX2.out.trans (by repeat (first | exact Ext.refl _ | assumption | refine Ext.alloc ?_ _ | refine Ext.drew ?_ | refine Ext.drewN ?_ _ | (refine Ext.setCell ?_ (by simp <;> omega) _) | refine Ext.trans ?_ (by assumption))))) (by first | omega | (simp; done) | (simp; omega)) (by have := HX2.out.size; first | omega | (simp; omega)) ?_; intro v3 W3 ho3 hg3; have HX3 := Lib.hid (show Ext wr W3 from own_ext hg3 (HO2.out.ext (by repeat (first | exact Ext.refl _ | assumption | refine Ext.alloc ?_ _ | refine Ext.drew ?_ | refine Ext.drewN ?_ _ | (refine Ext.setCell ?_ (by simp <;> omega) _) | refine Ext.trans ?_ (by assumption)))) (HX2.out.trans (by repeat (first | exact Ext.refl _ | assumption | refine Ext.alloc ?_ _ | refine Ext.drew ?_ | refine Ext.drewN ?_ _ | (refine Ext.setCell ?_ (by simp <;> omega) _) | refine Ext.trans ?_ (by assumption))))); have HO3 := Lib.hid ho3; clear ho3 hg3))
        all_goals go_wp2
        all_goals go_roundw
        all_goals (try (case rel => exact ⟨k + 1, by omega, by go_num, by rw [HNX.out, HINS.out]; exact ⟨HS2.out.box.next (HX.out.trans (HX3.out.trans (by repeat (first | exact Ext.refl _ | assumption | refine Ext.alloc ?_ _ | refine Ext.drew ?_ | refine Ext.drewN ?_ _ | (refine Ext.setCell ?_ (by simp <;> omega) _) | refine Ext.trans ?_ (by assumption))))), (HO3.out.mono (by have := HS2.out.box.blk.lt; have := HX.out.size; omega)).ext (by repeat (first | exact Ext.refl _ | assumption | refine Ext.alloc ?_ _ | refine Ext.drew ?_ | refine Ext.drewN ?_ _ | (refine Ext.setCell ?_ (by simp <;> omega) _) | refine Ext.trans ?_ (by assumption))), fun e => by simp at e⟩⟩))
        all_goals (try (case measure => simp [intOf]; omega))
end Go.Proofs.YtaopcpfgmjpliaaDoor
