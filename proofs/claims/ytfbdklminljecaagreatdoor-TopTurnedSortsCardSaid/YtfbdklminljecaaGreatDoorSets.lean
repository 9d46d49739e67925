/-
  Walks: the iterator of all sets of so many pages (page.stand.sets).
-/
import Derived.Test.YtfbdklminljecaaGreatDoorFindE
import Derived.Test.YtfbdklminljecaaGreatDoorStMem
import Derived.Test.YtfbdklminljecaaGreatDoorRWith
import Derived.Test.YtfbdklminljecaaGreatDoorGJ
import Derived.ArgAppend
namespace Go.Proofs.YtfbdklminljecaaGreatDoor
open Go.RowKit Go.Shelf
attribute [local go_sem] Oper.semAt_some wide_fn wide_depth

/-- A set as the iterator bears it: nil, or not empty, in a block other than l. -/
structure SetS (W : World) (l : Nat) (X : Option Addr) (c : Nat) (set : List Int) : Prop where
  ri : RI W X set.length set
  cap : set.length ≤ c
  form : X = none ∧ set = [] ∧ c = 0 ∨ 1 ≤ set.length
  far : ∀ a, X = some a → a.block ≠ l ∧ a.block < W.heap.size
theorem SetS.nil (W : World) (l : Nat) : SetS W l none 0 [] := ⟨RI.nil, Nat.le_refl _, .inl ⟨rfl, rfl, rfl⟩, fun _ h => (by cases h)⟩
theorem RI.but {W W' : World} {L : List Nat} {X : Option Addr} {n : Nat} {zs : List Int} (h : RI W X n zs) (hb : But L W W') (hf : ∀ a, X = some a → a.block ∉ L) : RI W' X n zs :=
  ⟨h.1, h.2.1, fun hn => let ⟨b, off, ha, hl, hc⟩ := h.2.2 hn; ⟨b, off, ha, Nat.lt_of_lt_of_le hl hb.size, fun k hk => (World.cell?_of_block (a := ⟨b, off + k, none⟩) (hb.block b hl (hf _ ha))).trans (hc k hk)⟩⟩
theorem SetS.but {W W' : World} {l : Nat} {X : Option Addr} {c : Nat} {set : List Int} (h : SetS W l X c set) (hb : But [l] W W') : SetS W' l X c set :=
  ⟨h.ri.but hb fun a ha => by simpa using (h.far a ha).1, h.cap, h.form, fun a ha => ⟨(h.far a ha).1, Nat.lt_of_lt_of_le (h.far a ha).2 hb.size⟩⟩
/-- What the iterator looks at. -/
structure Cpt (W : World) (cb sb fb : Nat) (s : ST) (count : Nat) : Prop where
  bc : Blk W cb 3 #[.int .i64 (count : Int)]
  bs : Blk W sb 69 #[.slice s.A s.cs.length s.c, .slice s.B s.ns.length s.d]
  bf : Blk W fb 105 #[.func (.func 46) #[] #[.pointer (some ⟨cb, 0, none⟩), .pointer (some ⟨sb, 0, none⟩), .pointer (some ⟨fb, 0, none⟩)]]
theorem Cpt.but {W W' : World} {cb sb fb count : Nat} {s : ST} {L : List Nat} (h : Cpt W cb sb fb s count) (hb : But L W W') (h1 : cb ∉ L) (h2 : sb ∉ L) (h3 : fb ∉ L) : Cpt W' cb sb fb s count := ⟨h.bc.but hb h1, h.bs.but hb h2, h.bf.but hb h3⟩
theorem Cpt.ext {W W' : World} {cb sb fb count : Nat} {s : ST} (h : Cpt W cb sb fb s count) (hx : Ext W W') : Cpt W' cb sb fb s count := ⟨h.bc.ext hx, h.bs.ext hx, h.bf.ext hx⟩
theorem clone_set (X : Option Addr) (c : Nat) (set : List Int) (w : World) (l : Nat) (h : SetS w l X c set) (h2 : set.length ≤ 1000000) :
    Calls Tryz.prog 25 #[.slice X set.length c] w fun e w' => ∃ Z cz, e = .returned (.slice Z set.length cz) ∧ RI w' Z set.length set ∧ (∀ a, Z = some a → w.heap.size ≤ a.block) ∧ Ext w w' := by
  rcases h.form with ⟨rfl, rfl, rfl⟩ | h1
  · exact (Tryz.slices_Clone_int_nil 0 0 w).mono fun e w' ⟨h3, h4⟩ => ⟨none, 0, h3, by rw [h4]; exact RI.nil, fun _ h => (by cases h), by rw [h4]; exact Ext.refl _⟩
  · exact (clone_any X c set w h.ri h1 h2).mono fun e w' ⟨g, cap, h3, h4, h5⟩ => by
      obtain ⟨A, c2, he, _, hr⟩ := h4.form (by omega)
      cases he
      exact ⟨_, _, h3, hr, fun a ha => by cases ha; exact h4.base_le g rfl, h5⟩
/-- One number more behind a set, in a new block. -/
theorem run_more {w : World} {X : Option Addr} {set : List Int} {c l g0 : Nat} {z : Int} (h : SetS w l X c set) (hb : w.cell? ⟨g0, 0, none⟩ = some (.int .i64 z)) (hlen : set.length ≤ 1000) (ty : TypeId) :
    ∃ g cap w', (Builtin.append_ #[25, 25] ty #[.slice X set.length set.length, .slice (some ⟨g0, 0, none⟩) 1 1]).run Tryz.prog w = .ok (.slice (some ⟨g, 0, none⟩) (set.length + 1) cap) w' ∧ w.heap.size ≤ g ∧ set.length + 1 ≤ cap ∧ RI w' (some ⟨g, 0, none⟩) (set ++ [z]).length (set ++ [z]) ∧ Ext w w' := by
  have hone : RI w (some ⟨g0, 0, none⟩) [z].length [z] := ⟨rfl, by simp, fun _ => ⟨g0, 0, rfl, cell_lt hb, fun k hk => by
    have : k = 0 := by simp at hk; omega
    subst this; exact hb⟩⟩
  rcases h.form with ⟨rfl, rfl, rfl⟩ | h1
  · obtain ⟨v', w', hr, ho, hg⟩ := run_appendI (c := 1) (Own.nil w w.heap.size) hone (by simp) (Nat.le_refl _) ty
    obtain ⟨g, cap, hv, hbg⟩ := World.ownsRow.form ho (by simp)
    subst hv
    obtain ⟨A, c2, he, hc, hri⟩ := Own.form ho (by simp)
    cases he
    exact ⟨g, cap, w', hr, hbg.1, hc, hri, Ext.grown (Ext.refl w) hg fun k hk => by cases hk⟩
  · obtain ⟨b, off, rfl, hbl, hc⟩ := h.ri.2.2 (by omega)
    obtain ⟨i0, hi, hz0, hz1, hz2⟩ := info_parts intInfo
    obtain ⟨v', w', hr, ho, hg⟩ := run_append_arg_grows (P := Tryz.prog) (w := w) 25 ty 3 i0 (.int .i64 0) 1 8 Tryz.underlying25 hi hz0 hz1 hz2 rfl (by decide) ⟨b, off, none⟩ set.length set.length (set.map (Value.int .i64)) (by simp)
      (fun j u hj => by
        rw [List.getElem?_map] at hj
        have hjl : j < set.length := by
          rcases Nat.lt_or_ge j set.length with h | h
          · exact h
          · rw [List.getElem?_eq_none h] at hj; cases hj
        rw [List.getElem?_eq_getElem hjl] at hj
        have := hc j hjl
        rw [List.getD_eq_getElem?_getD, List.getElem?_eq_getElem hjl, Option.getD_some] at this
        simp only [Option.map_some] at hj
        cases hj
        unfold Addr.add
        by_cases hj0 : j = 0
        · rw [if_pos hj0]; have e : off + j = off := by omega
          rw [e] at this; exact this
        · rw [if_neg hj0]; exact this)
      ⟨g0, 0, none⟩ 1 1 [.int .i64 z] (by simp) (fun j u hj => by
        match j, hj with
        | 0, hj => simp at hj; subst hj; simpa [Addr.add] using hb) (by omega) (by unfold maxLen; omega) (by omega)
    have ho' : Own w' w.heap.size v' (set ++ [z]) := by unfold Own; simpa using ho
    obtain ⟨g, cap, hv, hbg⟩ := World.ownsRow.form ho' (by simp)
    subst hv
    obtain ⟨A, c2, he, hc2, hri⟩ := Own.form ho' (by simp; omega)
    cases he
    refine ⟨g, cap, w', by simpa using hr, hbg.1, by simpa using hc2, hri, Ext.grown (Ext.refl w) hg fun k hk => by cases hk⟩
theorem step_more {w : World} {ops : Array Oper} {o : Oper} {a : Act} {K : Act → World → Prop} {Q : Exit → Act → World → Prop} {E : Prop} (hgd : o.guard = none) (s x : Operand) (ho : o.op = .call { callee := .builtin .append, args := #[s, x], argTypes := #[25, 25] })
    (X : Option Addr) (set : List Int) (m c l g0 : Nat) (z : Int) (hm : set.length = m) (hs : a.eval s = .slice X m m) (hset : SetS w l X c set) (hx : a.eval x = .slice (some ⟨g0, 0, none⟩) 1 1) (hb : w.cell? ⟨g0, 0, none⟩ = some (.int .i64 z)) (hlen : set.length ≤ 1000)
    (h : ∀ g cap w', w.heap.size ≤ g ∧ g < w'.heap.size → m + 1 ≤ cap → RI w' (some ⟨g, 0, none⟩) (set ++ [z]).length (set ++ [z]) → Ext w w' → K (a.put o.dst (.slice (some ⟨g, 0, none⟩) (m + 1) cap)) w') : if Region.wanted o (yielded ops a.tmps) = true then Oper.wp Tryz.prog o a w K Q else E := by
  rw [if_pos (by simp [Region.wanted, hgd])]
  obtain ⟨g, cap, w', hr', h1, h2, h3, h4⟩ := run_more hset hb hlen o.type
  rw [hm] at hr' h2
  have hg : g < w'.heap.size := by
    obtain ⟨b, off, he, hb, _⟩ := h3.2.2 (by simp)
    cases he; exact hb
  unfold Oper.wp execOp
  simp only [ho, resolve, invoke, builtin, Sem.run_bind, Sem.run_pure, Result.andThen_ok, List.map_toArray, List.map_cons, List.map_nil, hs, hx, hr']
  exact h g cap w' ⟨h1, hg⟩ h2 h3 h4
/-- What a call of the iterator's inner function leaves. -/
def FromPost (L : List (List Int)) (Pd : List Int → Bool) (J : World → Prop) (Jx : List Int → World → Prop) (l : Nat) (Lb : List Nat) (W : World) (e : Ending) (W' : World) : Prop :=
  match L.find? Pd with
  | none => e = .returned (.bool true) ∧ J W' ∧ But [l] W W'
  | some zs => e = .returned (.bool false) ∧ Jx zs W' ∧ But (l :: Lb) W W'
theorem cell_but {W W' : World} {L : List Nat} {b o : Nat} {v : Value} (h : W.cell? ⟨b, o, none⟩ = some v) (hb : But L W W') (hn : b ∉ L) : W'.cell? ⟨b, o, none⟩ = some v :=
  (World.cell?_of_block (a := ⟨b, o, none⟩) (hb.block b (cell_lt h) hn)).trans h
theorem FromPost.skip {a b : List (List Int)} {Pd : List Int → Bool} {J : World → Prop} {Jx : List Int → World → Prop} {l : Nat} {Lb : List Nat} {W W1 W' : World} {e : Ending} (h : a.find? Pd = none) (hb : But [l] W W1) (hp : FromPost b Pd J Jx l Lb W1 e W') : FromPost (a ++ b) Pd J Jx l Lb W e W' := by
  unfold FromPost at *
  rw [find_app, h]
  cases hf : b.find? Pd with
  | none => rw [hf] at hp; exact ⟨hp.1, hp.2.1, hb.trans hp.2.2⟩
  | some zs => rw [hf] at hp; exact ⟨hp.1, hp.2.1, (hb.wider (by simp)).trans hp.2.2⟩
theorem FromPost.hit {a b : List (List Int)} {Pd : List Int → Bool} {J : World → Prop} {Jx : List Int → World → Prop} {l : Nat} {Lb : List Nat} {W W' : World} {e : Ending} {zs : List Int} (h : a.find? Pd = some zs) (hp : e = .returned (.bool false) ∧ Jx zs W' ∧ But (l :: Lb) W W') : FromPost (a ++ b) Pd J Jx l Lb W e W' := by
  unfold FromPost
  rw [find_app, h]
  exact hp
set_option maxRecDepth 100000 in
set_option maxHeartbeats 8000000 in
/-- The last step: the set is handed out. -/
theorem from_last (s : ST) (cb sb fb l count base : Nat) (J : World → Prop) (Jx : List Int → World → Prop) (Pd : List Int → Bool) (Lb : List Nat) (L : List (List Int)) (hJ : ∀ X Y, J X → Ext X Y → J Y)
    (hY : ∀ n A c zs X, J X → zs ∈ L → RI X A zs.length zs → (∀ a, A = some a → base ≤ a.block) → YieldAt Fence.wide n Tryz.prog l #[.slice A zs.length c] X fun e Y => (e = .returned (.bool true) ∧ Pd zs = false ∧ J Y ∧ But [l] X Y) ∨ (e = .returned (.bool false) ∧ Pd zs = true ∧ Jx zs Y ∧ But (l :: Lb) X Y))
    (hcount : count ≤ 100) (set : List Int) (next : Int) (X : Option Addr) (c : Nat) (W : World) (hlen : set.length = count) (hmem : set ∈ L) (h0 : J W) (hc : Cpt W cb sb fb s count) (hset : SetS W l X c set) (hbase : base ≤ cb) :
    Calls Tryz.prog 46 #[.slice X set.length c, .int .i64 next, .func (.yield l) #[] #[], .pointer (some ⟨cb, 0, none⟩), .pointer (some ⟨sb, 0, none⟩), .pointer (some ⟨fb, 0, none⟩)] W (FromPost [set] Pd J Jx l Lb W) := by
  have CC := Lib.hid (fun W h => clone_set X c set W l h (by omega))
  have HBS : Hid (base ≤ W.heap.size) := Lib.hid (by have := hc.bc.lt; omega)
  have HC := Lib.hid hc; have HSE := Lib.hid hset; have HY := Lib.hid hY; have HJ := Lib.hid hJ; have HM := Lib.hid hmem
  have HP1 : Hid (Pd set = false → ∀ W', J W' → But [l] W W' → FromPost [set] Pd J Jx l Lb W (.returned (.bool true)) W') := Lib.hid fun h W' h1 h2 => by
    unfold FromPost; rw [show [set].find? Pd = none by simp [h]]; exact ⟨rfl, h1, h2⟩
  have HP2 : Hid (Pd set = true → ∀ W', Jx set W' → But (l :: Lb) W W' → FromPost [set] Pd J Jx l Lb W (.returned (.bool false)) W') := Lib.hid fun h W' h1 h2 => by
    unfold FromPost; rw [show [set].find? Pd = some set by simp [h]]; exact ⟨rfl, h1, h2⟩
  have i1 : ((set.length : Int) == (count : Int)) = true := by rw [beq_iff_eq]; omega
  clear hY hJ hmem hc hset hlen
  generalize FromPost [set] Pd J Jx l Lb W = RR at *
  have H0 := Lib.hid h0
  clear h0
  obtain ⟨pc, _, pcl⟩ := HC.out.bc.c1; obtain ⟨ps0, ps1, _, _, psl⟩ := HC.out.bs.c2; obtain ⟨pf, _, pfl⟩ := HC.out.bf.c1
  go_enter Tryz.func46, Tryz.ntmps46
  go_upto_region 2 with fail
  refine (wpIn_wide (n := 3)).1 ?_
  gi_wp2_with (first | (gi_at_call 25; refine CallsIn.mono (callsIn_wide.2 (CC.out _ HSE.out)) ?_; rintro e w1 ⟨Z, cz, rfl, hri, hfz, hb⟩; have HRI := Lib.hid hri; have HB := Lib.hid hb; have HFZ := Lib.hid hfz; clear hri hb hfz; obtain ⟨fn, tmps, assign, body, hy, hR⟩ := HY.out (3 - 1) Z cz set w1 (HJ.out _ _ H0.out HB.out) HM.out HRI.out (fun a ha => Nat.le_trans HBS.out (HFZ.out a ha)); have HR := Lib.hid hR; clear hR))
  refine HR.out.mono ?_
  rintro e W3 (⟨rfl, hP, hJ3, hB3⟩ | ⟨rfl, hP, hJ3, hB3⟩)
  · have HF := Lib.hid (HP1.out hP _ hJ3 ((But.of_ext HB.out _).trans hB3))
    clear hJ3 hB3
    gi_wp2
    go_wp2
    exact HF.out
  · have HF := Lib.hid (HP2.out hP _ hJ3 ((But.of_ext HB.out _).trans hB3))
    clear hJ3 hB3
    gi_wp2
    go_wp2
    exact HF.out
theorem yields_sub {N r : Nat} (set : List Int) : ∀ (m n : Nat), ∀ z ∈ yieldsOf N (r + 1) (n + m) set, z ∈ yieldsOf N (r + 1) n set
  | 0, _, _, h => h
  | m + 1, n, z, h => by
    rcases Nat.lt_or_ge n N with h1 | h1
    · rw [yields_step set h1]
      refine List.mem_append_right _ (yields_sub set m (n + 1) z ?_)
      rw [show n + 1 + m = n + (m + 1) by omega]; exact h
    · rw [yields_none set (by omega)] at h; cases h
theorem yields_in {N r next k : Nat} {set : List Int} (h1 : next ≤ k) (h2 : k < N) : ∀ z ∈ yieldsOf N r (k + 1) (set ++ [(k : Int)]), z ∈ yieldsOf N (r + 1) next set := fun z hz => by
  have h3 := yields_sub (N := N) (r := r) set (k - next) next z (by
    rw [show next + (k - next) = k by omega, yields_step set h2]
    exact List.mem_append_left _ hz)
  exact h3
set_option maxRecDepth 100000 in
set_option maxHeartbeats 16000000 in
theorem from_step (s : ST) (cb sb fb l count : Nat) (J : World → Prop) (Jx : List Int → World → Prop) (Pd : List Int → Bool) (Lb : List Nat) (L : List (List Int)) (hJ : ∀ X Y, J X → Ext X Y → J Y) (hJx : ∀ zs X Y, Jx zs X → Ext X Y → Jx zs Y)
    (hcount : count ≤ 100) (hN : s.ns.length ≤ 12) (hnl : cb ∉ [l] ∧ sb ∉ [l] ∧ fb ∉ [l]) (hnb : cb ∉ l :: Lb ∧ sb ∉ l :: Lb ∧ fb ∉ l :: Lb) (r : Nat)
    (ih : ∀ (set : List Int) (next : Nat) (X : Option Addr) (m c : Nat) (W : World), set.length = m → m + r = count → next ≤ s.ns.length → (∀ zs ∈ yieldsOf s.ns.length r next set, zs ∈ L) → J W → Cpt W cb sb fb s count → SetS W l X c set → l < W.heap.size → (X = none ∧ m = 0 ∧ c = 0 ∨ ∃ b off, X = some ⟨b, off, none⟩ ∧ m ≤ c) →
      Calls Tryz.prog 46 #[.slice X m c, .int .i64 (next : Int), .func (.yield l) #[] #[], .pointer (some ⟨cb, 0, none⟩), .pointer (some ⟨sb, 0, none⟩), .pointer (some ⟨fb, 0, none⟩)] W (FromPost (yieldsOf s.ns.length r next set) Pd J Jx l Lb W))
    (set : List Int) (next : Nat) (X : Option Addr) (m c : Nat) (W : World) (hlen : set.length = m) (hm : m + (r + 1) = count) (hnx : next ≤ s.ns.length) (hmem : ∀ zs ∈ yieldsOf s.ns.length (r + 1) next set, zs ∈ L) (h0 : J W) (hc : Cpt W cb sb fb s count) (hset : SetS W l X c set) (hlw : l < W.heap.size) (hform : X = none ∧ m = 0 ∧ c = 0 ∨ ∃ b off, X = some ⟨b, off, none⟩ ∧ m ≤ c) :
    Calls Tryz.prog 46 #[.slice X m c, .int .i64 (next : Int), .func (.yield l) #[] #[], .pointer (some ⟨cb, 0, none⟩), .pointer (some ⟨sb, 0, none⟩), .pointer (some ⟨fb, 0, none⟩)] W (FromPost (yieldsOf s.ns.length (r + 1) next set) Pd J Jx l Lb W) := by
  obtain ⟨RR, hRR⟩ : ∃ RR, RR = FromPost (yieldsOf s.ns.length (r + 1) next set) Pd J Jx l Lb W := ⟨_, rfl⟩
  have HRR : Hid (∀ e W', FromPost (yieldsOf s.ns.length (r + 1) next set) Pd J Jx l Lb W e W' → RR e W') := Lib.hid (by rw [hRR]; exact fun _ _ h => h)
  rw [← hRR]
  clear hRR
  have HC := Lib.hid hc; have HSE := Lib.hid hset; have HJ := Lib.hid hJ; have HJX := Lib.hid hJx; have H0 := Lib.hid h0; have HLW := Lib.hid hlw; have HIH := Lib.hid ih; have HLEN := Lib.hid hlen; have HMR := Lib.hid hm; have HNL := Lib.hid hnl; have HNB := Lib.hid hnb
  have HL9 : Hid (set.length ≤ 1000) := Lib.hid (by omega)
  have HMEM : Hid (∀ k, next ≤ k → k < s.ns.length → ∀ zs ∈ yieldsOf s.ns.length r (k + 1) (set ++ [(k : Int)]), zs ∈ L) := Lib.hid fun k h1 h2 zs hz => hmem zs (yields_in h1 h2 zs hz)
  clear hc hset hJ hJx h0 hlw ih hlen hnl hnb hmem
  rcases hform with ⟨rfl, rfl, rfl⟩ | ⟨b, off, rfl, hmc⟩
  · have i2 : ((0 : Int) == (count : Int)) = false := by rw [beq_eq_false_iff_ne]; omega
    clear hm
    obtain ⟨pc, _, pcl⟩ := HC.out.bc.c1; obtain ⟨ps0, ps1, _, _, psl⟩ := HC.out.bs.c2; obtain ⟨pf, _, pfl⟩ := HC.out.bf.c1
    go_enter Tryz.func46, Tryz.ntmps46
    have HC1 := HC
    have HSE0 := HSE
    go_wp2
    clear pc pcl ps0 ps1 psl pf pfl HC HSE
    go_loopw [10] (fun i wr => ∃ k : Nat, next ≤ k ∧ k ≤ s.ns.length ∧ i = .int .i64 (k : Int) ∧ Hid (J wr) ∧ Hid (But [l] W wr) ∧ Hid (∀ e W', FromPost (yieldsOf s.ns.length (r + 1) k set) Pd J Jx l Lb wr e W' → RR e W')) (fun i _ => s.ns.length - (intOf i).toNat)
    case atStart => exact ⟨next, Nat.le_refl _, hnx, rfl, H0, Lib.hid (But.of_ext (Ext.refl _) _), HRR⟩
    case round =>
      obtain ⟨k, hk1, hk2, rfl, HJW, HBW, HPP⟩ := hrel
      have HC := Lib.hid (HC1.out.but HBW.out HNL.out.1 HNL.out.2.1 HNL.out.2.2)
      have HSE := Lib.hid (HSE0.out.but HBW.out)
      have HHS : Hid (l < wr.heap.size) := Lib.hid (Nat.lt_of_lt_of_le HLW.out HBW.out.size)
      clear HRR H0
      obtain ⟨pc, _, pcl⟩ := HC.out.bc.c1; obtain ⟨ps0, ps1, _, _, psl⟩ := HC.out.bs.c2; obtain ⟨pf, _, pfl⟩ := HC.out.bf.c1
      by_cases hlt : k < s.ns.length
      case neg =>
        obtain hke : k = s.ns.length := by omega
        have i3 : ¬ ((k : Int) < (s.ns.length : Int)) := by omega
        have hpp := HPP.out (.returned (.bool true)) wr (by unfold FromPost; rw [yields_none _ (by omega)]; exact ⟨rfl, HJW.out, But.of_ext (Ext.refl _) _⟩)
        have HFIN := Lib.hid hpp
        clear hpp HPP hke
        go_wp2
        exact HFIN.out
      case pos =>
        have i3 : (k : Int) < (s.ns.length : Int) := by omega
        have hmem2 := HMEM.out k hk1 hlt
        have hst := yields_step (r := r) set hlt
        obtain ⟨k1, hk⟩ : ∃ k1, k1 = k + 1 := ⟨_, rfl⟩
        have hw1 : IntKind.i64.wrap ((k : Int) + 1) = (k1 : Int) := by rw [IntWalk.i64_in _ (by omega)]; omega
        rw [← hk] at hst hmem2
        rw [hst] at HPP
        have HIK : Hid (∀ g cap W2, wr.heap.size ≤ g ∧ g < W2.heap.size → 1 ≤ cap → RI W2 (some ⟨g, 0, none⟩) (set ++ [(k : Int)]).length (set ++ [(k : Int)]) → Ext wr W2 → Calls Tryz.prog 46 #[.slice (some ⟨g, 0, none⟩) 1 cap, .int .i64 (k1 : Int), .func (.yield l) #[] #[], .pointer (some ⟨cb, 0, none⟩), .pointer (some ⟨sb, 0, none⟩), .pointer (some ⟨fb, 0, none⟩)] W2 (FromPost (yieldsOf s.ns.length r k1 (set ++ [(k : Int)])) Pd J Jx l Lb W2)) := Lib.hid fun g cap W2 h1 h2 h3 h4 =>
          HIH.out (set ++ [(k : Int)]) k1 (some ⟨g, 0, none⟩) 1 cap W2 (by rw [List.length_append, HLEN.out]; rfl) (by have := HMR.out; omega) (by omega) hmem2 (HJ.out _ _ HJW.out h4) (HC.out.ext h4) ⟨h3, by rw [List.length_append, HLEN.out]; exact h2, .inr (by simp), fun a ha => by cases ha; exact ⟨by have := HHS.out; simp only; omega, h1.2⟩⟩ (Nat.lt_of_lt_of_le HHS.out h4.size) (.inr ⟨g, 0, rfl, h2⟩)
        clear hst hmem2
        have HK := Lib.hid hk
        clear hk
        cases hf : (yieldsOf s.ns.length r k1 (set ++ [(k : Int)])).find? Pd with
        | none =>
          have CIH : Hid (∀ g cap W2, wr.heap.size ≤ g ∧ g < W2.heap.size → 1 ≤ cap → RI W2 (some ⟨g, 0, none⟩) (set ++ [(k : Int)]).length (set ++ [(k : Int)]) → Ext wr W2 → Calls Tryz.prog 46 #[.slice (some ⟨g, 0, none⟩) 1 cap, .int .i64 (k1 : Int), .func (.yield l) #[] #[], .pointer (some ⟨cb, 0, none⟩), .pointer (some ⟨sb, 0, none⟩), .pointer (some ⟨fb, 0, none⟩)] W2 (fun e W' => e = .returned (.bool true) ∧ J W' ∧ But [l] W2 W')) := Lib.hid fun g cap W2 h1 h2 h3 h4 => (HIK.out g cap W2 h1 h2 h3 h4).mono fun e W' hp => by
            unfold FromPost at hp; rw [hf] at hp; exact hp
          have HPN : Hid (∀ w3, But [l] wr w3 → ∀ e W', FromPost (yieldsOf s.ns.length (r + 1) k1 set) Pd J Jx l Lb w3 e W' → RR e W') := Lib.hid fun w3 h1 e W' h2 => HPP.out e W' (FromPost.skip hf h1 h2)
          have HCB : Hid (∀ {W2 : World} (w3 : World), Ext wr W2 → But [l] W2 w3 → Cpt w3 cb sb fb s count) := Lib.hid fun w3 h1 h2 => (HC.out.ext h1).but h2 HNL.out.1 HNL.out.2.1 HNL.out.2.2
          clear HPP HIK hf
          go_upto_region 6 with fail
          go_region_held3 (fun W => W.cell? ⟨fb, 0, none⟩ = some (.func (.func 46) #[] #[.pointer (some ⟨cb, 0, none⟩), .pointer (some ⟨sb, 0, none⟩), .pointer (some ⟨fb, 0, none⟩)]) ∧ fb < W.heap.size) (first | exact ⟨pf, pfl⟩ | (refine ⟨?_, ?_⟩ <;> first | exact Nat.lt_of_lt_of_le pfl (Ext.size (by repeat first | exact yx0 _ | assumption | refine yxa ?_ _ | refine yxd ?_ | refine yxn ?_ _ | refine yxs ?_ (by simp <;> omega) _ | refine yxt ?_ (by assumption))) | exact ((HC.out.ext (by repeat first | exact yx0 _ | assumption | refine yxa ?_ _ | refine yxd ?_ | refine yxn ?_ _ | refine yxs ?_ (by simp <;> omega) _ | refine yxt ?_ (by assumption))).bf.cell 0 _ rfl) | go_keep) | go_keep) (first | (refine step_more rfl (.tmp 34) (.tmp 36) rfl none set 0 0 l _ (k : Int) HLEN.out rfl (HSE.out.but (But.of_ext (by repeat first | exact yx0 _ | assumption | refine yxa ?_ _ | refine yxd ?_ | refine yxn ?_ _ | refine yxs ?_ (by simp <;> omega) _ | refine yxt ?_ (by assumption)) _)) rfl (by first | (simp; done) | exact ((Blk.new _ _ _).cell 0 _ rfl)) HL9.out ?_; intro g cap w2 h1 h2 h3 h4; have HG : Hid (wr.heap.size ≤ g ∧ g < w2.heap.size) := Lib.hid ⟨Nat.le_trans (Ext.size (a := wr) (by repeat first | exact yx0 _ | assumption | refine yxa ?_ _ | refine yxd ?_ | refine yxn ?_ _ | refine yxs ?_ (by simp <;> omega) _ | refine yxt ?_ (by assumption))) h1.1, h1.2⟩; have HCP := Lib.hid h2; have HRI := Lib.hid h3; have HX2 := Lib.hid (Ext.trans (a := wr) (by repeat first | exact yx0 _ | assumption | refine yxa ?_ _ | refine yxd ?_ | refine yxn ?_ _ | refine yxs ?_ (by simp <;> omega) _ | refine yxt ?_ (by assumption)) h4); clear h1 h2 h3 h4) | (go_at_call 46; refine Calls.mono (CIH.out _ _ _ HG.out (by have := HCP.out; omega) (HRI.out.ext (by repeat first | exact yx0 _ | assumption | refine yxa ?_ _ | refine yxd ?_ | refine yxn ?_ _ | refine yxs ?_ (by simp <;> omega) _ | refine yxt ?_ (by assumption))) (HX2.out.trans (by repeat first | exact yx0 _ | assumption | refine yxa ?_ _ | refine yxd ?_ | refine yxn ?_ _ | refine yxs ?_ (by simp <;> omega) _ | refine yxt ?_ (by assumption)))) ?_; rintro e9 w3 ⟨rfl, hj3, hb3⟩; have HC3 := Lib.hid (HCB.out _ (HX2.out.trans (by repeat first | exact yx0 _ | assumption | refine yxa ?_ _ | refine yxd ?_ | refine yxn ?_ _ | refine yxs ?_ (by simp <;> omega) _ | refine yxt ?_ (by assumption))) hb3); have HJ3 := Lib.hid hj3; have HB3 := Lib.hid hb3; clear hj3 hb3 HC pc pcl ps0 ps1 psl pf pfl; have HC := HC3; clear HC3; obtain ⟨pc, _, pcl⟩ := HC.out.bc.c1; obtain ⟨ps0, ps1, _, _, psl⟩ := HC.out.bs.c2; obtain ⟨pf, _, pfl⟩ := HC.out.bf.c1))
          go_wp2
          go_roundw
          case rel => exact ⟨k1, by have := HK.out; omega, by have := HK.out; omega, by go_num, HJ3, Lib.hid (HBW.out.trans ((But.of_ext HX2.out _).trans HB3.out)), Lib.hid (HPN.out _ ((But.of_ext HX2.out _).trans HB3.out))⟩
          case measure => have hk9 := HK.out; simp [intOf] <;> omega
        | some zs =>
          have CIH : Hid (∀ g cap W2, wr.heap.size ≤ g ∧ g < W2.heap.size → 1 ≤ cap → RI W2 (some ⟨g, 0, none⟩) (set ++ [(k : Int)]).length (set ++ [(k : Int)]) → Ext wr W2 → Calls Tryz.prog 46 #[.slice (some ⟨g, 0, none⟩) 1 cap, .int .i64 (k1 : Int), .func (.yield l) #[] #[], .pointer (some ⟨cb, 0, none⟩), .pointer (some ⟨sb, 0, none⟩), .pointer (some ⟨fb, 0, none⟩)] W2 (fun e W' => e = .returned (.bool false) ∧ Jx zs W' ∧ But (l :: Lb) W2 W')) := Lib.hid fun g cap W2 h1 h2 h3 h4 => (HIK.out g cap W2 h1 h2 h3 h4).mono fun e W' hp => by
            unfold FromPost at hp; rw [hf] at hp; exact hp
          have HPN : Hid (∀ w3 W', But (l :: Lb) wr w3 → Jx zs w3 → Ext w3 W' → RR (.returned (.bool false)) W') := Lib.hid fun w3 W' h1 h2 h3 => HPP.out _ _ (FromPost.hit hf ⟨rfl, HJX.out _ _ _ h2 h3, h1.trans (But.of_ext h3 _)⟩)
          have HCB : Hid (∀ {W2 : World} (w3 : World), Ext wr W2 → But (l :: Lb) W2 w3 → Cpt w3 cb sb fb s count) := Lib.hid fun w3 h1 h2 => (HC.out.ext h1).but h2 HNB.out.1 HNB.out.2.1 HNB.out.2.2
          clear HPP HIK hf
          go_upto_region 6 with fail
          go_region_held3 (fun W => W.cell? ⟨fb, 0, none⟩ = some (.func (.func 46) #[] #[.pointer (some ⟨cb, 0, none⟩), .pointer (some ⟨sb, 0, none⟩), .pointer (some ⟨fb, 0, none⟩)]) ∧ fb < W.heap.size) (first | exact ⟨pf, pfl⟩ | (refine ⟨?_, ?_⟩ <;> first | exact Nat.lt_of_lt_of_le pfl (Ext.size (by repeat first | exact yx0 _ | assumption | refine yxa ?_ _ | refine yxd ?_ | refine yxn ?_ _ | refine yxs ?_ (by simp <;> omega) _ | refine yxt ?_ (by assumption))) | exact ((HC.out.ext (by repeat first | exact yx0 _ | assumption | refine yxa ?_ _ | refine yxd ?_ | refine yxn ?_ _ | refine yxs ?_ (by simp <;> omega) _ | refine yxt ?_ (by assumption))).bf.cell 0 _ rfl) | go_keep) | go_keep) (first | (refine step_more rfl (.tmp 34) (.tmp 36) rfl none set 0 0 l _ (k : Int) HLEN.out rfl (HSE.out.but (But.of_ext (by repeat first | exact yx0 _ | assumption | refine yxa ?_ _ | refine yxd ?_ | refine yxn ?_ _ | refine yxs ?_ (by simp <;> omega) _ | refine yxt ?_ (by assumption)) _)) rfl (by first | (simp; done) | exact ((Blk.new _ _ _).cell 0 _ rfl)) HL9.out ?_; intro g cap w2 h1 h2 h3 h4; have HG : Hid (wr.heap.size ≤ g ∧ g < w2.heap.size) := Lib.hid ⟨Nat.le_trans (Ext.size (a := wr) (by repeat first | exact yx0 _ | assumption | refine yxa ?_ _ | refine yxd ?_ | refine yxn ?_ _ | refine yxs ?_ (by simp <;> omega) _ | refine yxt ?_ (by assumption))) h1.1, h1.2⟩; have HCP := Lib.hid h2; have HRI := Lib.hid h3; have HX2 := Lib.hid (Ext.trans (a := wr) (by repeat first | exact yx0 _ | assumption | refine yxa ?_ _ | refine yxd ?_ | refine yxn ?_ _ | refine yxs ?_ (by simp <;> omega) _ | refine yxt ?_ (by assumption)) h4); clear h1 h2 h3 h4) | (go_at_call 46; refine Calls.mono (CIH.out _ _ _ HG.out (by have := HCP.out; omega) (HRI.out.ext (by repeat first | exact yx0 _ | assumption | refine yxa ?_ _ | refine yxd ?_ | refine yxn ?_ _ | refine yxs ?_ (by simp <;> omega) _ | refine yxt ?_ (by assumption))) (HX2.out.trans (by repeat first | exact yx0 _ | assumption | refine yxa ?_ _ | refine yxd ?_ | refine yxn ?_ _ | refine yxs ?_ (by simp <;> omega) _ | refine yxt ?_ (by assumption)))) ?_; rintro e9 w3 ⟨rfl, hj3, hb3⟩; have HC3 := Lib.hid (HCB.out _ (HX2.out.trans (by repeat first | exact yx0 _ | assumption | refine yxa ?_ _ | refine yxd ?_ | refine yxn ?_ _ | refine yxs ?_ (by simp <;> omega) _ | refine yxt ?_ (by assumption))) hb3); have HJ3 := Lib.hid hj3; have HB3 := Lib.hid hb3; clear hj3 hb3 HC pc pcl ps0 ps1 psl pf pfl; have HC := HC3; clear HC3; obtain ⟨pc, _, pcl⟩ := HC.out.bc.c1; obtain ⟨ps0, ps1, _, _, psl⟩ := HC.out.bs.c2; obtain ⟨pf, _, pfl⟩ := HC.out.bf.c1))
          go_wp2
          exact HPN.out _ _ ((But.of_ext HX2.out _).trans HB3.out) HJ3.out (by repeat first | exact yx0 _ | assumption | refine yxa ?_ _ | refine yxd ?_ | refine yxn ?_ _ | refine yxs ?_ (by simp <;> omega) _ | refine yxt ?_ (by assumption))
  · have i2 : ((m : Int) == (count : Int)) = false := by rw [beq_eq_false_iff_ne]; omega
    have b1 : (0 : Int) ≤ (m : Int) := by omega
    have b2 : (m : Int) ≤ (c : Int) := by omega
    clear hm
    obtain ⟨pc, _, pcl⟩ := HC.out.bc.c1; obtain ⟨ps0, ps1, _, _, psl⟩ := HC.out.bs.c2; obtain ⟨pf, _, pfl⟩ := HC.out.bf.c1
    go_enter Tryz.func46, Tryz.ntmps46
    have HC1 := HC
    have HSE0 := HSE
    go_wp2
    clear pc pcl ps0 ps1 psl pf pfl HC HSE
    go_loopw [10] (fun i wr => ∃ k : Nat, next ≤ k ∧ k ≤ s.ns.length ∧ i = .int .i64 (k : Int) ∧ Hid (J wr) ∧ Hid (But [l] W wr) ∧ Hid (∀ e W', FromPost (yieldsOf s.ns.length (r + 1) k set) Pd J Jx l Lb wr e W' → RR e W')) (fun i _ => s.ns.length - (intOf i).toNat)
    case atStart => exact ⟨next, Nat.le_refl _, hnx, rfl, H0, Lib.hid (But.of_ext (Ext.refl _) _), HRR⟩
    case round =>
      obtain ⟨k, hk1, hk2, rfl, HJW, HBW, HPP⟩ := hrel
      have HC := Lib.hid (HC1.out.but HBW.out HNL.out.1 HNL.out.2.1 HNL.out.2.2)
      have HSE := Lib.hid (HSE0.out.but HBW.out)
      have HHS : Hid (l < wr.heap.size) := Lib.hid (Nat.lt_of_lt_of_le HLW.out HBW.out.size)
      clear HRR H0
      obtain ⟨pc, _, pcl⟩ := HC.out.bc.c1; obtain ⟨ps0, ps1, _, _, psl⟩ := HC.out.bs.c2; obtain ⟨pf, _, pfl⟩ := HC.out.bf.c1
      by_cases hlt : k < s.ns.length
      case neg =>
        obtain hke : k = s.ns.length := by omega
        have i3 : ¬ ((k : Int) < (s.ns.length : Int)) := by omega
        have hpp := HPP.out (.returned (.bool true)) wr (by unfold FromPost; rw [yields_none _ (by omega)]; exact ⟨rfl, HJW.out, But.of_ext (Ext.refl _) _⟩)
        have HFIN := Lib.hid hpp
        clear hpp HPP hke
        go_wp2
        exact HFIN.out
      case pos =>
        have i3 : (k : Int) < (s.ns.length : Int) := by omega
        have hmem2 := HMEM.out k hk1 hlt
        have hst := yields_step (r := r) set hlt
        obtain ⟨k1, hk⟩ : ∃ k1, k1 = k + 1 := ⟨_, rfl⟩
        have hw1 : IntKind.i64.wrap ((k : Int) + 1) = (k1 : Int) := by rw [IntWalk.i64_in _ (by omega)]; omega
        rw [← hk] at hst hmem2
        rw [hst] at HPP
        have HIK : Hid (∀ g cap W2, wr.heap.size ≤ g ∧ g < W2.heap.size → (m + 1) ≤ cap → RI W2 (some ⟨g, 0, none⟩) (set ++ [(k : Int)]).length (set ++ [(k : Int)]) → Ext wr W2 → Calls Tryz.prog 46 #[.slice (some ⟨g, 0, none⟩) (m + 1) cap, .int .i64 (k1 : Int), .func (.yield l) #[] #[], .pointer (some ⟨cb, 0, none⟩), .pointer (some ⟨sb, 0, none⟩), .pointer (some ⟨fb, 0, none⟩)] W2 (FromPost (yieldsOf s.ns.length r k1 (set ++ [(k : Int)])) Pd J Jx l Lb W2)) := Lib.hid fun g cap W2 h1 h2 h3 h4 =>
          HIH.out (set ++ [(k : Int)]) k1 (some ⟨g, 0, none⟩) (m + 1) cap W2 (by rw [List.length_append, HLEN.out]; rfl) (by have := HMR.out; omega) (by omega) hmem2 (HJ.out _ _ HJW.out h4) (HC.out.ext h4) ⟨h3, by rw [List.length_append, HLEN.out]; exact h2, .inr (by simp), fun a ha => by cases ha; exact ⟨by have := HHS.out; simp only; omega, h1.2⟩⟩ (Nat.lt_of_lt_of_le HHS.out h4.size) (.inr ⟨g, 0, rfl, h2⟩)
        clear hst hmem2
        have HK := Lib.hid hk
        clear hk
        cases hf : (yieldsOf s.ns.length r k1 (set ++ [(k : Int)])).find? Pd with
        | none =>
          have CIH : Hid (∀ g cap W2, wr.heap.size ≤ g ∧ g < W2.heap.size → (m + 1) ≤ cap → RI W2 (some ⟨g, 0, none⟩) (set ++ [(k : Int)]).length (set ++ [(k : Int)]) → Ext wr W2 → Calls Tryz.prog 46 #[.slice (some ⟨g, 0, none⟩) (m + 1) cap, .int .i64 (k1 : Int), .func (.yield l) #[] #[], .pointer (some ⟨cb, 0, none⟩), .pointer (some ⟨sb, 0, none⟩), .pointer (some ⟨fb, 0, none⟩)] W2 (fun e W' => e = .returned (.bool true) ∧ J W' ∧ But [l] W2 W')) := Lib.hid fun g cap W2 h1 h2 h3 h4 => (HIK.out g cap W2 h1 h2 h3 h4).mono fun e W' hp => by
            unfold FromPost at hp; rw [hf] at hp; exact hp
          have HPN : Hid (∀ w3, But [l] wr w3 → ∀ e W', FromPost (yieldsOf s.ns.length (r + 1) k1 set) Pd J Jx l Lb w3 e W' → RR e W') := Lib.hid fun w3 h1 e W' h2 => HPP.out e W' (FromPost.skip hf h1 h2)
          have HCB : Hid (∀ {W2 : World} (w3 : World), Ext wr W2 → But [l] W2 w3 → Cpt w3 cb sb fb s count) := Lib.hid fun w3 h1 h2 => (HC.out.ext h1).but h2 HNL.out.1 HNL.out.2.1 HNL.out.2.2
          clear HPP HIK hf
          go_upto_region 6 with fail
          go_region_held3 (fun W => W.cell? ⟨fb, 0, none⟩ = some (.func (.func 46) #[] #[.pointer (some ⟨cb, 0, none⟩), .pointer (some ⟨sb, 0, none⟩), .pointer (some ⟨fb, 0, none⟩)]) ∧ fb < W.heap.size) (first | exact ⟨pf, pfl⟩ | (refine ⟨?_, ?_⟩ <;> first | exact Nat.lt_of_lt_of_le pfl (Ext.size (by repeat first | exact yx0 _ | assumption | refine yxa ?_ _ | refine yxd ?_ | refine yxn ?_ _ | refine yxs ?_ (by simp <;> omega) _ | refine yxt ?_ (by assumption))) | exact ((HC.out.ext (by repeat first | exact yx0 _ | assumption | refine yxa ?_ _ | refine yxd ?_ | refine yxn ?_ _ | refine yxs ?_ (by simp <;> omega) _ | refine yxt ?_ (by assumption))).bf.cell 0 _ rfl) | go_keep) | go_keep) (first | (refine step_more rfl (.tmp 34) (.tmp 36) rfl (some ⟨b, off, none⟩) set m c l _ (k : Int) HLEN.out rfl (HSE.out.but (But.of_ext (by repeat first | exact yx0 _ | assumption | refine yxa ?_ _ | refine yxd ?_ | refine yxn ?_ _ | refine yxs ?_ (by simp <;> omega) _ | refine yxt ?_ (by assumption)) _)) rfl (by first | (simp; done) | exact ((Blk.new _ _ _).cell 0 _ rfl)) HL9.out ?_; intro g cap w2 h1 h2 h3 h4; have HG : Hid (wr.heap.size ≤ g ∧ g < w2.heap.size) := Lib.hid ⟨Nat.le_trans (Ext.size (a := wr) (by repeat first | exact yx0 _ | assumption | refine yxa ?_ _ | refine yxd ?_ | refine yxn ?_ _ | refine yxs ?_ (by simp <;> omega) _ | refine yxt ?_ (by assumption))) h1.1, h1.2⟩; have HCP := Lib.hid h2; have HRI := Lib.hid h3; have HX2 := Lib.hid (Ext.trans (a := wr) (by repeat first | exact yx0 _ | assumption | refine yxa ?_ _ | refine yxd ?_ | refine yxn ?_ _ | refine yxs ?_ (by simp <;> omega) _ | refine yxt ?_ (by assumption)) h4); clear h1 h2 h3 h4) | (go_at_call 46; refine Calls.mono (CIH.out _ _ _ HG.out (by have := HCP.out; omega) (HRI.out.ext (by repeat first | exact yx0 _ | assumption | refine yxa ?_ _ | refine yxd ?_ | refine yxn ?_ _ | refine yxs ?_ (by simp <;> omega) _ | refine yxt ?_ (by assumption))) (HX2.out.trans (by repeat first | exact yx0 _ | assumption | refine yxa ?_ _ | refine yxd ?_ | refine yxn ?_ _ | refine yxs ?_ (by simp <;> omega) _ | refine yxt ?_ (by assumption)))) ?_; rintro e9 w3 ⟨rfl, hj3, hb3⟩; have HC3 := Lib.hid (HCB.out _ (HX2.out.trans (by repeat first | exact yx0 _ | assumption | refine yxa ?_ _ | refine yxd ?_ | refine yxn ?_ _ | refine yxs ?_ (by simp <;> omega) _ | refine yxt ?_ (by assumption))) hb3); have HJ3 := Lib.hid hj3; have HB3 := Lib.hid hb3; clear hj3 hb3 HC pc pcl ps0 ps1 psl pf pfl; have HC := HC3; clear HC3; obtain ⟨pc, _, pcl⟩ := HC.out.bc.c1; obtain ⟨ps0, ps1, _, _, psl⟩ := HC.out.bs.c2; obtain ⟨pf, _, pfl⟩ := HC.out.bf.c1))
          go_wp2
          go_roundw
          case rel => exact ⟨k1, by have := HK.out; omega, by have := HK.out; omega, by go_num, HJ3, Lib.hid (HBW.out.trans ((But.of_ext HX2.out _).trans HB3.out)), Lib.hid (HPN.out _ ((But.of_ext HX2.out _).trans HB3.out))⟩
          case measure => have hk9 := HK.out; simp [intOf] <;> omega
        | some zs =>
          have CIH : Hid (∀ g cap W2, wr.heap.size ≤ g ∧ g < W2.heap.size → (m + 1) ≤ cap → RI W2 (some ⟨g, 0, none⟩) (set ++ [(k : Int)]).length (set ++ [(k : Int)]) → Ext wr W2 → Calls Tryz.prog 46 #[.slice (some ⟨g, 0, none⟩) (m + 1) cap, .int .i64 (k1 : Int), .func (.yield l) #[] #[], .pointer (some ⟨cb, 0, none⟩), .pointer (some ⟨sb, 0, none⟩), .pointer (some ⟨fb, 0, none⟩)] W2 (fun e W' => e = .returned (.bool false) ∧ Jx zs W' ∧ But (l :: Lb) W2 W')) := Lib.hid fun g cap W2 h1 h2 h3 h4 => (HIK.out g cap W2 h1 h2 h3 h4).mono fun e W' hp => by
            unfold FromPost at hp; rw [hf] at hp; exact hp
          have HPN : Hid (∀ w3 W', But (l :: Lb) wr w3 → Jx zs w3 → Ext w3 W' → RR (.returned (.bool false)) W') := Lib.hid fun w3 W' h1 h2 h3 => HPP.out _ _ (FromPost.hit hf ⟨rfl, HJX.out _ _ _ h2 h3, h1.trans (But.of_ext h3 _)⟩)
          have HCB : Hid (∀ {W2 : World} (w3 : World), Ext wr W2 → But (l :: Lb) W2 w3 → Cpt w3 cb sb fb s count) := Lib.hid fun w3 h1 h2 => (HC.out.ext h1).but h2 HNB.out.1 HNB.out.2.1 HNB.out.2.2
          clear HPP HIK hf
          go_upto_region 6 with fail
          go_region_held3 (fun W => W.cell? ⟨fb, 0, none⟩ = some (.func (.func 46) #[] #[.pointer (some ⟨cb, 0, none⟩), .pointer (some ⟨sb, 0, none⟩), .pointer (some ⟨fb, 0, none⟩)]) ∧ fb < W.heap.size) (first | exact ⟨pf, pfl⟩ | (refine ⟨?_, ?_⟩ <;> first | exact Nat.lt_of_lt_of_le pfl (Ext.size (by repeat first | exact yx0 _ | assumption | refine yxa ?_ _ | refine yxd ?_ | refine yxn ?_ _ | refine yxs ?_ (by simp <;> omega) _ | refine yxt ?_ (by assumption))) | exact ((HC.out.ext (by repeat first | exact yx0 _ | assumption | refine yxa ?_ _ | refine yxd ?_ | refine yxn ?_ _ | refine yxs ?_ (by simp <;> omega) _ | refine yxt ?_ (by assumption))).bf.cell 0 _ rfl) | go_keep) | go_keep) (first | (refine step_more rfl (.tmp 34) (.tmp 36) rfl (some ⟨b, off, none⟩) set m c l _ (k : Int) HLEN.out rfl (HSE.out.but (But.of_ext (by repeat first | exact yx0 _ | assumption | refine yxa ?_ _ | refine yxd ?_ | refine yxn ?_ _ | refine yxs ?_ (by simp <;> omega) _ | refine yxt ?_ (by assumption)) _)) rfl (by first | (simp; done) | exact ((Blk.new _ _ _).cell 0 _ rfl)) HL9.out ?_; intro g cap w2 h1 h2 h3 h4; have HG : Hid (wr.heap.size ≤ g ∧ g < w2.heap.size) := Lib.hid ⟨Nat.le_trans (Ext.size (a := wr) (by repeat first | exact yx0 _ | assumption | refine yxa ?_ _ | refine yxd ?_ | refine yxn ?_ _ | refine yxs ?_ (by simp <;> omega) _ | refine yxt ?_ (by assumption))) h1.1, h1.2⟩; have HCP := Lib.hid h2; have HRI := Lib.hid h3; have HX2 := Lib.hid (Ext.trans (a := wr) (by repeat first | exact yx0 _ | assumption | refine yxa ?_ _ | refine yxd ?_ | refine yxn ?_ _ | refine yxs ?_ (by simp <;> omega) _ | refine yxt ?_ (by assumption)) h4); clear h1 h2 h3 h4) | (go_at_call 46; refine Calls.mono (CIH.out _ _ _ HG.out (by have := HCP.out; omega) (HRI.out.ext (by repeat first | exact yx0 _ | assumption | refine yxa ?_ _ | refine yxd ?_ | refine yxn ?_ _ | refine yxs ?_ (by simp <;> omega) _ | refine yxt ?_ (by assumption))) (HX2.out.trans (by repeat first | exact yx0 _ | assumption | refine yxa ?_ _ | refine yxd ?_ | refine yxn ?_ _ | refine yxs ?_ (by simp <;> omega) _ | refine yxt ?_ (by assumption)))) ?_; rintro e9 w3 ⟨rfl, hj3, hb3⟩; have HC3 := Lib.hid (HCB.out _ (HX2.out.trans (by repeat first | exact yx0 _ | assumption | refine yxa ?_ _ | refine yxd ?_ | refine yxn ?_ _ | refine yxs ?_ (by simp <;> omega) _ | refine yxt ?_ (by assumption))) hb3); have HJ3 := Lib.hid hj3; have HB3 := Lib.hid hb3; clear hj3 hb3 HC pc pcl ps0 ps1 psl pf pfl; have HC := HC3; clear HC3; obtain ⟨pc, _, pcl⟩ := HC.out.bc.c1; obtain ⟨ps0, ps1, _, _, psl⟩ := HC.out.bs.c2; obtain ⟨pf, _, pfl⟩ := HC.out.bf.c1))
          go_wp2
          exact HPN.out _ _ ((But.of_ext HX2.out _).trans HB3.out) HJ3.out (by repeat first | exact yx0 _ | assumption | refine yxa ?_ _ | refine yxd ?_ | refine yxn ?_ _ | refine yxs ?_ (by simp <;> omega) _ | refine yxt ?_ (by assumption))
end Go.Proofs.YtfbdklminljecaaGreatDoor
