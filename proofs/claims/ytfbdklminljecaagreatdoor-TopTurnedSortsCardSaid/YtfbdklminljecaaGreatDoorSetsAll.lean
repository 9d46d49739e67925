/-
  Walks: the iterator of all sets of so many pages, whole.
-/
import Derived.Test.YtfbdklminljecaaGreatDoorSets
import Derived.Laws.EntriesVeiled
namespace Go.Proofs.YtfbdklminljecaaGreatDoor
open Go.RowKit Go.Shelf

theorem from_all (s : ST) (cb sb fb l count base : Nat) (J : World → Prop) (Jx : List Int → World → Prop) (Pd : List Int → Bool) (Lb : List Nat) (L : List (List Int)) (hJ : ∀ X Y, J X → Ext X Y → J Y) (hJx : ∀ zs X Y, Jx zs X → Ext X Y → Jx zs Y)
    (hY : ∀ n A c zs X, J X → zs ∈ L → RI X A zs.length zs → (∀ a, A = some a → base ≤ a.block) → YieldAt Fence.wide n Tryz.prog l #[.slice A zs.length c] X fun e Y => (e = .returned (.bool true) ∧ Pd zs = false ∧ J Y ∧ But [l] X Y) ∨ (e = .returned (.bool false) ∧ Pd zs = true ∧ Jx zs Y ∧ But (l :: Lb) X Y))
    (hcount : count ≤ 100) (hN : s.ns.length ≤ 12) (hnl : cb ∉ [l] ∧ sb ∉ [l] ∧ fb ∉ [l]) (hnb : cb ∉ l :: Lb ∧ sb ∉ l :: Lb ∧ fb ∉ l :: Lb) (hbase : base ≤ cb) :
    ∀ (r : Nat) (set : List Int) (next : Nat) (X : Option Addr) (m c : Nat) (W : World), set.length = m → m + r = count → next ≤ s.ns.length → (∀ zs ∈ yieldsOf s.ns.length r next set, zs ∈ L) → J W → Cpt W cb sb fb s count → SetS W l X c set → l < W.heap.size → (X = none ∧ m = 0 ∧ c = 0 ∨ ∃ b off, X = some ⟨b, off, none⟩ ∧ m ≤ c) →
      Calls Tryz.prog 46 #[.slice X m c, .int .i64 (next : Int), .func (.yield l) #[] #[], .pointer (some ⟨cb, 0, none⟩), .pointer (some ⟨sb, 0, none⟩), .pointer (some ⟨fb, 0, none⟩)] W (FromPost (yieldsOf s.ns.length r next set) Pd J Jx l Lb W)
  | 0, set, next, X, m, c, W, hlen, hm, _, hmem, h0, hc, hset, _, _ => by
    subst hlen
    rw [yields_zero] at hmem ⊢
    exact from_last s cb sb fb l count base J Jx Pd Lb L hJ hY hcount set next X c W (by omega) (hmem set (List.mem_singleton.2 rfl)) h0 hc hset hbase
  | r + 1, set, next, X, m, c, W, hlen, hm, hnx, hmem, h0, hc, hset, hlw, hform =>
    from_step s cb sb fb l count J Jx Pd Lb L hJ hJx hcount hN hnl hnb r (from_all s cb sb fb l count base J Jx Pd Lb L hJ hJx hY hcount hN hnl hnb hbase r) set next X m c W hlen hm hnx hmem h0 hc hset hlw hform
set_option maxRecDepth 100000 in
set_option maxHeartbeats 4000000 in
theorem sets_finds (s : ST) (cb sb fb count base : Nat) (w : World) (hc : Cpt w cb sb fb s count) (hcount : count ≤ 100) (hN : s.ns.length ≤ 12) (hb : base ≤ cb ∧ base ≤ sb ∧ base ≤ fb) :
    Finds Tryz.prog 47 #[.pointer (some ⟨fb, 0, none⟩)] (comb s.ns.length count s.ns.length) base w := by
  intro l J Jx Pd Lb W hW hl hLb hobj hJ hJx hY h0 n
  refine callsIn_wide.2 ?_
  have hlt : l < W.heap.size := by obtain ⟨o, ho, _⟩ := hobj; exact (Array.getElem?_eq_some_iff.1 ho).1
  have hcl := hc.bc.lt; have hsl := hc.bs.lt; have hfl := hc.bf.lt
  have hnl : cb ∉ [l] ∧ sb ∉ [l] ∧ fb ∉ [l] := by simp only [List.mem_singleton]; omega
  have hnb : cb ∉ l :: Lb ∧ sb ∉ l :: Lb ∧ fb ∉ l :: Lb := by
    simp only [List.mem_cons, not_or]
    refine ⟨⟨by omega, fun h => ?_⟩, ⟨by omega, fun h => ?_⟩, by omega, fun h => ?_⟩ <;> · have := hLb _ h; omega
  have hcW := hc.ext hW
  have cF := fun W2 (h : Ext W W2) => from_all s cb sb fb l count base J Jx Pd Lb (comb s.ns.length count s.ns.length) hJ hJx hY hcount hN hnl hnb hb.1 count [] 0 none 0 0 W2 rfl (by omega) (by omega) (by rw [yields_all]; exact fun _ h => h) (hJ _ _ h0 h) (hcW.ext h) (SetS.nil _ _) (Nat.lt_of_lt_of_le hlt h.size) (.inl ⟨rfl, rfl, rfl⟩)
  rw [yields_all] at cF
  have HC := Lib.hid hcW
  have HP : Hid (∀ W2 e W', Ext W W2 → FromPost (comb s.ns.length count s.ns.length) Pd J Jx l Lb W2 e W' → match (comb s.ns.length count s.ns.length).find? Pd with | none => J W' | some zs => Jx zs W') := Lib.hid fun W2 e W' _ h => by
    unfold FromPost at h
    cases hf : (comb s.ns.length count s.ns.length).find? Pd with
    | none => rw [hf] at h; exact h.2.1
    | some zs => rw [hf] at h; exact h.2.1
  have HR : Hid (∃ b, ∀ W2 e W', FromPost (comb s.ns.length count s.ns.length) Pd J Jx l Lb W2 e W' → e = .returned (.bool b)) := Lib.hid (by
    cases hf : (comb s.ns.length count s.ns.length).find? Pd with
    | none => exact ⟨true, fun W2 e W' h => by unfold FromPost at h; rw [hf] at h; exact h.1⟩
    | some zs => exact ⟨false, fun W2 e W' h => by unfold FromPost at h; rw [hf] at h; exact h.1⟩)
  obtain ⟨RR, hRR⟩ : ∃ RR : World → Prop, ∀ W', RR W' ↔ (match (comb s.ns.length count s.ns.length).find? Pd with | none => J W' | some zs => Jx zs W') := ⟨_, fun _ => Iff.rfl⟩
  have HRX : Hid (∀ X Y, RR X → Ext X Y → RR Y) := Lib.hid fun X Y h hx => by
    rw [hRR] at h ⊢
    cases hf : (comb s.ns.length count s.ns.length).find? Pd with
    | none => rw [hf] at h; exact hJ _ _ h hx
    | some zs => rw [hf] at h; exact hJx _ _ _ h hx
  have hgoal : ∀ {e : Ending} {W' : World}, ((∃ v, e = .returned v) ∧ RR W') → ((∃ v, e = .returned v) ∧ (match (comb s.ns.length count s.ns.length).find? Pd with | none => J W' | some zs => Jx zs W')) := fun h => ⟨h.1, (hRR _).1 h.2⟩
  obtain ⟨bo, hbo⟩ := HR.out
  have CF : Hid (∀ W2, Ext W W2 → Calls Tryz.prog 46 #[.slice none 0 0, .int .i64 0, .func (.yield l) #[] #[], .pointer (some ⟨cb, 0, none⟩), .pointer (some ⟨sb, 0, none⟩), .pointer (some ⟨fb, 0, none⟩)] W2 (fun e W' => e = .returned (.bool bo) ∧ RR W')) := Lib.hid fun W2 h => (cF W2 h).mono fun e W' hp => ⟨hbo _ _ _ hp, (hRR _).2 (HP.out _ _ _ h hp)⟩
  refine Calls.mono ?_ (fun e W' h => hgoal h)
  clear cF HP HR hRR hgoal hbo hY hJ hJx h0 hobj hc hcW hnl hnb hLb hb hcl hsl hfl
  obtain ⟨pc, _, pcl⟩ := HC.out.bc.c1; obtain ⟨ps0, ps1, _, _, psl⟩ := HC.out.bs.c2; obtain ⟨pf, _, pfl⟩ := HC.out.bf.c1
  go_enter Tryz.func47, Tryz.ntmps47
  go_wp2_with (first | (go_at_call 46; refine Calls.mono (CF.out _ (by repeat first | exact yx0 _ | assumption | refine yxa ?_ _ | refine yxd ?_ | refine yxn ?_ _ | refine yxs ?_ (by simp <;> omega) _ | refine yxt ?_ (by assumption))) ?_; rintro e9 w1 ⟨rfl, hr⟩; have HR := Lib.hid hr; clear hr))
  refine bodyPost_end (results_none rfl _ _ _) rfl ?_
  exact ⟨⟨_, rfl⟩, HRX.out _ _ HR.out (by repeat first | exact yx0 _ | assumption | refine yxa ?_ _ | refine yxd ?_ | refine yxn ?_ _ | refine yxs ?_ (by simp <;> omega) _ | refine yxt ?_ (by assumption))⟩
set_option maxRecDepth 100000 in
set_option maxHeartbeats 4000000 in
theorem sets_any (s : ST) (count : Nat) (w : World) : Calls Tryz.prog 29 #[s.val, .int .i64 (count : Int)] w (fun e w' => e = .returned (.func (.func 47) #[] #[.pointer (some ⟨w.heap.size + 1 + 1, 0, none⟩)]) ∧ Cpt w' (w.heap.size + 1) w.heap.size (w.heap.size + 1 + 1) s count ∧ Ext w w') := by
  unfold ST.val
  go_enter Tryz.func29, Tryz.ntmps29
  go_wp2
  go_ret
  exact ⟨rfl, ⟨(Blk.new1 w _ _ _).alloc _, ((Blk.new w _ _).alloc _).alloc _, Blk.new2 w _ _ _ _⟩, (by repeat first | exact yx0 _ | assumption | refine yxa ?_ _ | refine yxd ?_ | refine yxn ?_ _ | refine yxs ?_ (by simp <;> omega) _ | refine yxt ?_ (by assumption))⟩
end Go.Proofs.YtfbdklminljecaaGreatDoor
