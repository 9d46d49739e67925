/-
  A region whose operations make memory, with operations that are left out: what is known of each value is kept by whatever is only added.
  A drawn region within a round of a loop over an iterator: by what is known of each value, in every order; reads ahead of one last operation.
-/
import Derived.Test.YtccdnieoaejgdaaGreatDoorT2AI
import Derived.Test.YtccdnieoaejgdaaGreatDoorT2AA
import Derived.Test.YtccdnieoaejgdaaGreatDoorT2AL
set_option linter.unusedVariables false
set_option linter.unusedSimpArgs false
set_option linter.unusedSectionVars false
namespace Go.Proofs.YtccdnieoaejgdaaGreatDoor
open Go.RowKit

abbrev StepZR (P : Program) (Ψ : Value → World → Prop) (o : Oper) (r : Result Next) : Prop :=
  match r with
  | .ok (.value u) W' => Ψ u W'
  | .ok .skip W' => o.dst = none ∧ Ψ undef W'
  | .ok (.enter f args) W' => Calls P f args W' (fun e W'' => ∃ u, e = .returned u ∧ Ψ u W'')
  | _ => False
/-- What an operation does: it yields a value of which Ψ holds; where it is left out, undef is one. -/
structure StepZ (P : Program) (ops : Array Oper) (Ψ : Value → World → Prop) (a : Act) (o : Oper) (W : World) : Prop where
  it : if Region.wanted o (yielded ops a.tmps) = true then StepZR P Ψ o ((execOp a.eval o).run P W) else Ψ undef W
section
variable {P : Program} {l : List Oper} {a a0 : Act} {W : World}
theorem StepZ.go {ops : Array Oper} {Ψ : Value → World → Prop} {o : Oper} (hw : Region.wanted o (yielded ops a.tmps) = true) (h : StepZR P Ψ o ((execOp a.eval o).run P W)) : StepZ P ops Ψ a o W := by
  refine ⟨?_⟩; rw [if_pos hw]; exact h
theorem StepZ.off {ops : Array Oper} {Ψ : Value → World → Prop} {o : Oper} (hw : Region.wanted o (yielded ops a.tmps) = false) (h : Ψ undef W) : StepZ P ops Ψ a o W := by
  refine ⟨?_⟩; rw [if_neg (by rw [hw]; decide)]; exact h
theorem StepZ.wpOp {ops : Array Oper} {Q : Exit → Act → World → Prop} {Ψ : Value → World → Prop} {aT : Act} {i : Nat} {o : Oper} {K : Act → World → Prop} (hi : ops[i]? = some o) (h : StepZ P ops Ψ aT o W) (he : execOp a.eval o = execOp aT.eval o)
    (hw : Region.wanted o (yielded ops a.tmps) = Region.wanted o (yielded ops aT.tmps)) (hK : ∀ u W', Ψ u W' → K (a.put o.dst u) W') : Go.wpOp P ops Q i K a W := by
  unfold Go.wpOp
  simp only [hi]
  have h := h.it
  rw [← hw] at h
  split
  · rename_i hwt
    rw [if_pos hwt] at h
    refine .inl ?_
    unfold Oper.wp
    rw [he]
    generalize (execOp aT.eval o).run P W = r at *
    cases r with
    | ok n w' =>
      cases n with
      | value u => exact hK _ _ h
      | skip =>
        obtain ⟨hd, hS'⟩ := h
        exact hK _ _ hS'
      | enter f args =>
        refine Calls.mono h fun e w'' he => ?_
        obtain ⟨u, rfl, hS'⟩ := he
        exact hK _ _ hS'
      | _ => exact h.elim
    | halt x w' => exact h.elim
  · rename_i hwt
    rw [if_neg hwt] at h
    exact hK _ _ h
/-- **A region, by what is known of each value, in every order that its edges allow.** -/
theorem wp_region_z {id : Nat} {w : World} {Q : Exit → Act → World → Prop} (Φ : Vs → World → Prop) (hm : P.follows .mixedOrders = true) (hok : steadyOk l = true)
    (h0 : Φ (List.replicate l.length none) { w with drawn := w.drawn + 1 })
    (hstep : ∀ i o V W, l[i]? = some o → V.length = l.length → V.getD i none = none → (∀ k ∈ dirOf o, (V.getD k none).isSome = true) → Φ V W → Closed l V →
    ∃ V' : List Value, V'.length = l.length ∧ (∀ j v, V.getD j none = some v → V'[j]? = some v) ∧ StepZ P l.toArray (fun u W' => Φ (V.set i (some u)) W') (stateAt l V' a0 i) o W)
    (hQ : ∀ V W, V.length = l.length → (∀ i, i < l.length → (V.getD i none).isSome = true) → Φ V W → Q .normal (putAll l (known V) a0) W) : (Code.region id l.toArray true).wp P Q a0 w := by
  refine wp_region_any hm ?_
  refine wpAny_inv (fun L a W => ∃ V : Vs, V.length = l.length ∧ (∀ i, i < l.length → (V.getD i none).isSome = L.getD i true) ∧ Φ V W ∧ SteadyJ l (known V) a0 (fun _ => True) (fun _ _ => True) L a W)
    (fun L a W h => by obtain ⟨V, _, _, _, h⟩ := h; rw [h.size]; simp) (fun L a W i h hi => ?_) (fun L a W h hr => ?_) _ _ _ _
    ⟨List.replicate l.length none, by simp, fun i hi => ?_, h0, by simp, fun i o hi hL => ?_, trivial, fun j hj hL => trivial, rfl, rfl, fun t _ => rfl, fun j o v t hj _ _ hL => ?_⟩ ?_
  · obtain ⟨V, hlen, hV, hΦ, h⟩ := h
    unfold Region.ready at hi
    simp only [List.mem_filter, List.mem_range, Bool.and_eq_true, Bool.not_eq_true'] at hi
    obtain ⟨hlt, hun, hrd⟩ := hi
    have hil : i < l.length := by simpa using hlt
    obtain ⟨o, ho⟩ : ∃ o, l[i]? = some o := ⟨_, List.getElem?_eq_getElem hil⟩
    have hoa : l.toArray[i]? = some o := by simpa using ho
    rw [hoa] at hrd
    simp only [Option.map_some, Option.getD_some, Array.all_eq_true'] at hrd
    have hrdy : ∀ k ∈ dirOf o, L.getD k true = true := fun k hk => by
      unfold dirOf at hk
      obtain ⟨e, he, rfl⟩ := List.mem_map.1 hk
      obtain ⟨he1, he2⟩ := List.mem_filter.1 he
      have h1 := hrd e (by simpa using he1)
      rw [he2] at h1
      simp only [Bool.not_true, Bool.false_or] at h1
      have hk2 := (steadyOk_at hok ho).2.1 e.on hk
      rw [Array.getD_eq_getD_getElem?] at h1 ⊢
      rw [Array.getElem?_eq_getElem (by rw [h.size]; omega)] at h1 ⊢
      exact h1
    have hiV : V.getD i none = none := by
      have := hV i hil
      rw [hun] at this
      cases hx : V.getD i none with
      | none => rfl
      | some v => exact absurd (hx ▸ this) (by simp)
    obtain ⟨V', hlk, hag, hst⟩ := hstep i o V W ho hlen hiV (fun k hk => by rw [hV k (by have := (steadyOk_at hok ho).2.1 k hk; omega)]; exact hrdy k hk) hΦ (fun j x hj hs k hk => by
      have hjl := (List.getElem?_eq_some_iff.1 hj).1
      have h1 : L.getD j true = true := by rw [← hV j hjl]; exact hs
      have h2 := h.shut j x hj h1 k hk
      rw [hV k (by have := (steadyOk_at hok hj).2.1 k hk; omega)]; exact h2)
    have h' : SteadyJ l V' a0 (fun _ => True) (fun _ _ => True) L a W := ⟨h.size, h.shut, trivial, fun _ _ _ => trivial, h.defers, h.tsize, h.old, fun j x v t hj hv hd hL => by
      have hjl := (List.getElem?_eq_some_iff.1 hj).1
      have h1 := hV j hjl
      rw [hL] at h1
      obtain ⟨u, hu⟩ := Option.isSome_iff_exists.1 h1
      have h2 := hag j u hu
      rw [hv] at h2
      injection h2 with h2
      refine h.done j x v t hj ?_ hd hL
      rw [known_at (by rw [hlen]; exact hjl), hu, h2]; rfl⟩
    have hlook := h'.looks hok hlk ho hun hrdy
    refine StepZ.wpOp hoa hst ?_ ?_ (fun u W' hS' => ⟨V.set i (some u), by simp [hlen], fun j hj => ?_, hS', (h.turn hun u).put hok ho (by unfold known; simp [hlen, hil]) hun hrdy ⟨trivial, trivial, fun _ _ => trivial⟩⟩)
    · refine execOp_congr o (fun cs b e => ?_) (fun x hx => ?_)
      · have := (steadyOk_at hok ho).1
        rw [e] at this
        cases this
      · cases x with
        | tmp t =>
          have := hlook t (by unfold Oper.looksAt; exact List.mem_append_left _ (List.mem_filterMap.2 ⟨.tmp t, by simpa using hx, rfl⟩))
          show a.tmps.getD t undef = (stateAt l V' a0 i).tmps.getD t undef
          rw [Array.getD_eq_getD_getElem?, Array.getD_eq_getD_getElem?, this]
        | _ => rfl
    · unfold Region.wanted
      cases hg : o.guard with
      | none => rfl
      | some gw =>
        obtain ⟨q, want⟩ := gw
        have hy : yielded l.toArray a.tmps q = yielded l.toArray (stateAt l V' a0 i).tmps q := by
          unfold yielded
          cases ht : (l.toArray[q]?).bind (·.dst) with
          | none => rfl
          | some t =>
            have := hlook t (by unfold Oper.looksAt; refine List.mem_append_right _ ?_; rw [hg]; simp only [ht]; simp)
            simp only [Option.bind_some, this]
        simp only [hy]
    · by_cases hij : j = i
      · subst hij
        rw [getD_set_self]
        simp [hlen, hj]
      · rw [getD_set_other hij, ← hV j hj]
        rw [List.getD_eq_getElem?_getD, List.getElem?_set_ne (fun e => hij e.symm), ← List.getD_eq_getElem?_getD]
  · obtain ⟨V, hlen, hV, hΦ, h⟩ := h
    obtain ⟨hall, ha⟩ := h.final hok (by unfold known; simp [hlen]) hr
    rw [ha]
    exact hQ V W hlen (fun i hi => by rw [hV i hi]; exact hall i hi) hΦ
  · rw [List.getD_eq_getElem?_getD, List.getElem?_replicate, if_pos hi, Array.getD_eq_getD_getElem?, Array.getElem?_eq_getElem (by simpa using hi)]
    simp
  · have hlt := (List.getElem?_eq_some_iff.1 hi).1
    replace hL : (Array.replicate l.toArray.size false).getD i true = true := hL
    rw [Array.getD_eq_getD_getElem?, Array.getElem?_eq_getElem (by simpa using hlt)] at hL
    simp at hL
  · have hlt := (List.getElem?_eq_some_iff.1 hj).1
    rw [Array.getD_eq_getD_getElem?, Array.getElem?_eq_getElem (by simpa using hlt)] at hL
    simp at hL
  · exact Nat.le_trans (List.count_le_length) (by simp)
/-- The values: known ones, and others by their numbers. -/
def vu : List (Option Value) → Nat → (Nat → Value) → List Value
  | [], _, _ => []
  | some c :: r, i, U => c :: vu r (i + 1) U
  | none :: r, i, U => U i :: vu r (i + 1) U
theorem vu_len : ∀ (kn : List (Option Value)) (i : Nat) (U : Nat → Value), (vu kn i U).length = kn.length
  | [], _, _ => rfl
  | some c :: r, i, U => by rw [vu, List.length_cons, vu_len r, List.length_cons]
  | none :: r, i, U => by rw [vu, List.length_cons, vu_len r, List.length_cons]
theorem vu_at : ∀ (kn : List (Option Value)) (i : Nat) (U : Nat → Value) (j : Nat), j < kn.length → (vu kn i U)[j]? = some ((kn.getD j none).getD (U (i + j)))
  | some c :: r, i, U, 0, _ => by rw [vu]; simp
  | none :: r, i, U, 0, _ => by rw [vu]; simp
  | some c :: r, i, U, j + 1, h => by
    rw [vu, List.getElem?_cons_succ, vu_at r (i + 1) U j (by simpa using h), List.getD_cons_succ, show i + 1 + j = i + (j + 1) by omega]
  | none :: r, i, U, j + 1, h => by
    rw [vu, List.getElem?_cons_succ, vu_at r (i + 1) U j (by simpa using h), List.getD_cons_succ, show i + 1 + j = i + (j + 1) by omega]
/-- What an operation leaves: a known value, or one of which p holds. -/
def gives (kn : List (Option Value)) (p : Nat → Value → World → Prop) (i : Nat) (u : Value) (W : World) : Prop :=
  match kn.getD i none with
  | some c => u = c
  | none => p i u W
theorem gives_k {kn : List (Option Value)} {p : Nat → Value → World → Prop} {i : Nat} {c : Value} {W : World} (h : kn.getD i none = some c) : gives kn p i c W := by unfold gives; rw [h]
theorem gives_e {kn : List (Option Value)} {p : Nat → Value → World → Prop} {i : Nat} {u : Value} {W : World} (h : kn.getD i none = none) (hp : p i u W) : gives kn p i u W := by unfold gives; rw [h]; exact hp
/-- The operations one by one: each is told only of those that it waits for. -/
def StepsZ (P : Program) (kn : List (Option Value)) (p : Nat → Value → World → Prop) (w0 : World) (l0 : List Oper) (a0 : Act) : Nat → List Oper → Prop
  | _, [] => True
  | i, o :: l => (∀ (U : Nat → Value) (W : World), Ext w0 W → (∀ k ∈ dirOf o, kn.getD k none = none → p k (U k) W) → StepZ P l0.toArray (fun u W' => Ext W W' ∧ gives kn p i u W') (stateAt l0 (vu kn 0 U) a0 i) o W) ∧ StepsZ P kn p w0 l0 a0 (i + 1) l
theorem StepsZ.at {kn : List (Option Value)} {p : Nat → Value → World → Prop} {w0 : World} {l0 : List Oper} : ∀ {l : List Oper} {k : Nat}, StepsZ P kn p w0 l0 a0 k l → ∀ i o, l[i]? = some o → ∀ (U : Nat → Value) (W : World), Ext w0 W → (∀ q ∈ dirOf o, kn.getD q none = none → p q (U q) W) →
    StepZ P l0.toArray (fun u W' => Ext W W' ∧ gives kn p (k + i) u W') (stateAt l0 (vu kn 0 U) a0 (k + i)) o W
  | [], _, _, i, o, h => by simp at h
  | x :: l, k, hs, 0, o, h => by
    simp at h; subst h
    exact hs.1
  | x :: l, k, hs, i + 1, o, h => by
    have := StepsZ.at hs.2 i o (by simpa using h)
    rwa [show k + 1 + i = k + (i + 1) by omega] at this
theorem StepZ.imp {ops : Array Oper} {Ψ Ψ' : Value → World → Prop} {o : Oper} (h : StepZ P ops Ψ a o W) (hi : ∀ u W', Ψ u W' → Ψ' u W') : StepZ P ops Ψ' a o W := by
  refine ⟨?_⟩
  have h := h.it
  split
  · rename_i hw
    rw [if_pos hw] at h
    generalize (execOp a.eval o).run P W = r at *
    cases r with
    | ok n w' =>
      cases n with
      | value u => exact hi _ _ h
      | skip => exact ⟨h.1, hi _ _ h.2⟩
      | enter f args => exact Calls.mono h fun e w'' he => he.imp fun u ⟨e1, e2⟩ => ⟨e1, hi _ _ e2⟩
      | _ => exact h.elim
    | halt x w' => exact h.elim
  · rename_i hw
    rw [if_neg hw] at h
    exact hi _ _ h
theorem wp_region_rel {id : Nat} {w : World} {Q : Exit → Act → World → Prop} (kn : List (Option Value)) (p : Nat → Value → World → Prop) (w0 : World) (hm : P.follows .mixedOrders = true) (hok : steadyOk l = true) (hkn : kn.length = l.length)
    (hR : ∀ k v W W', p k v W → Ext W W' → p k v W') (h0 : Ext w0 w) (hs : StepsZ P kn p w0 l a0 0 l)
    (hQ : ∀ (U : Nat → Value) (W : World), Ext w0 W → (∀ k, k < l.length → kn.getD k none = none → p k (U k) W) → Q .normal (putAll l (vu kn 0 U) a0) W) : (Code.region id l.toArray true).wp P Q a0 w := by
  refine wp_region_z (fun V W => Ext w0 W ∧ ∀ k v, V.getD k none = some v → gives kn p k v W) hm hok ⟨h0.trans (Ext.refl w).drew, fun k v hk => ?_⟩ (fun i o V W h1 h2 h3 h4 h5 h6 => ?_) (fun V W h1 h2 h3 => ?_)
  · rw [List.getD_eq_getElem?_getD, List.getElem?_replicate] at hk
    split at hk <;> simp at hk
  · have hil : i < V.length := by rw [h2]; exact (List.getElem?_eq_some_iff.1 h1).1
    have := hs.at i o h1 (fun k => (V.getD k none).getD undef) W h5.1 (fun k hk hn => by
      obtain ⟨v, hv⟩ := Option.isSome_iff_exists.1 (h4 k hk)
      have h9 := h5.2 k v hv
      unfold gives at h9
      rw [hn] at h9
      rw [hv]; exact h9)
    rw [Nat.zero_add] at this
    refine ⟨_, by rw [vu_len, hkn], fun j v hv => ?_, this.imp fun u W' ⟨hx, hr⟩ => ⟨h5.1.trans hx, fun k v hk => ?_⟩⟩
    · have hjl : j < kn.length := by
        rcases Nat.lt_or_ge j V.length with h | h
        · omega
        · rw [List.getD_eq_getElem?_getD, List.getElem?_eq_none h] at hv; cases hv
      rw [vu_at _ _ _ _ hjl, Nat.zero_add]
      have h9 := h5.2 j v hv
      unfold gives at h9
      cases hc : kn.getD j none with
      | none => rw [hv]; rfl
      | some c =>
        rw [hc] at h9
        simp only at h9
        rw [h9]; rfl
    · by_cases hki : k = i
      · subst hki
        rw [List.getD_eq_getElem?_getD, List.getElem?_set_self hil] at hk
        simp only [Option.getD_some, Option.some.injEq] at hk
        subst hk
        exact hr
      · rw [List.getD_eq_getElem?_getD, List.getElem?_set_ne (fun e => hki e.symm), ← List.getD_eq_getElem?_getD] at hk
        have h9 := h5.2 k v hk
        unfold gives at h9 ⊢
        split
        · rename_i c hc; rw [hc] at h9; exact h9
        · rename_i hc; rw [hc] at h9; exact hR k v W W' h9 hx
  · have := hQ (fun k => (V.getD k none).getD undef) W h3.1 (fun k hk hn => by
      obtain ⟨v, hv⟩ := Option.isSome_iff_exists.1 (h2 k hk)
      have h9 := h3.2 k v hv
      unfold gives at h9
      rw [hn] at h9
      rw [hv]; exact h9)
    rwa [show vu kn 0 (fun k => (V.getD k none).getD undef) = known V from ?_] at this
    refine List.ext_getElem? fun j => ?_
    rcases Nat.lt_or_ge j l.length with hj | hj
    · rw [vu_at _ _ _ _ (by omega), known_at (by omega), Nat.zero_add]
      obtain ⟨v, hv⟩ := Option.isSome_iff_exists.1 (h2 j hj)
      have h9 := h3.2 j v hv
      unfold gives at h9
      cases hc : kn.getD j none with
      | none => rw [hv]; rfl
      | some c =>
        rw [hc] at h9
        simp only at h9
        rw [hv, h9]; rfl
    · rw [List.getElem?_eq_none (by rw [vu_len]; omega), List.getElem?_eq_none (by unfold known; rw [List.length_map]; omega)]
end
end Go.Proofs.YtccdnieoaejgdaaGreatDoor
namespace Go.Proofs.YtccdnieoaejgdaaGreatDoor
open Go.RowKit
section
variable {P : Program} {l : List Oper} {a a0 : Act} {W : World}
theorem StepZ.wpOpIn {ops : Array Oper} {Q : Exit → Act → World → Prop} {Ψ : Value → World → Prop} {aT : Act} {i l0 n : Nat} {o : Oper} {K : Act → World → Prop} (hi : ops[i]? = some o) (hnd : ∀ c, o.op ≠ .defer c) (h : StepZ P ops Ψ aT o W) (he : execOp a.eval o = execOp aT.eval o)
    (hw : Region.wanted o (yielded ops a.tmps) = Region.wanted o (yielded ops aT.tmps)) (hK : ∀ u W', Ψ u W' → K (a.put o.dst u) W') : Go.wpOpIn (Fence.wide.inRound l0) n P ops Q i K a W := by
  unfold Go.wpOpIn
  simp only [hi]
  have h := h.it
  rw [← hw] at h
  split
  · rename_i hwt
    rw [if_pos hwt] at h
    refine ⟨fun _ _ => trivial, ?_⟩
    show o.uponIn _ n P a K Q ((o.semAt (some l0) a.eval).run P W)
    rw [Oper.semAt_eq _ _ _ hnd, he]
    generalize (execOp aT.eval o).run P W = r at *
    cases r with
    | ok n w' =>
      cases n with
      | value u => exact hK _ _ h
      | skip =>
        obtain ⟨hd, hS'⟩ := h
        exact hK _ _ hS'
      | enter f args =>
        refine ⟨fun e => (by cases e), (CallsIn.inRound l0 (callsIn_wide.2 h)).mono fun e w'' he => ?_⟩
        obtain ⟨u, rfl, hS'⟩ := he
        exact hK _ _ hS'
      | _ => exact h.elim
    | halt x w' => exact h.elim
  · rename_i hwt
    rw [if_neg hwt] at h
    exact ⟨fun _ _ => trivial, hK _ _ h⟩
/-- **A region, by what is known of each value, in every order that its edges allow.** -/
theorem wpIn_region_z {id l0 n : Nat} {w : World} {Q : Exit → Act → World → Prop} (Φ : Vs → World → Prop) (hm : P.follows .mixedOrders = true) (hok : steadyOk l = true) (hnd : noDefer l = true)
    (h0 : Φ (List.replicate l.length none) { w with drawn := w.drawn + 1 })
    (hstep : ∀ i o V W, l[i]? = some o → V.length = l.length → V.getD i none = none → (∀ k ∈ dirOf o, (V.getD k none).isSome = true) → Φ V W → Closed l V →
    ∃ V' : List Value, V'.length = l.length ∧ (∀ j v, V.getD j none = some v → V'[j]? = some v) ∧ StepZ P l.toArray (fun u W' => Φ (V.set i (some u)) W') (stateAt l V' a0 i) o W)
    (hQ : ∀ V W, V.length = l.length → (∀ i, i < l.length → (V.getD i none).isSome = true) → Φ V W → Q .normal (putAll l (known V) a0) W) : (Code.region id l.toArray true).wpIn (Fence.wide.inRound l0) n P Q a0 w := by
  refine wpIn_region_any hm ?_
  refine wpAnyIn_inv (fun L a W => ∃ V : Vs, V.length = l.length ∧ (∀ i, i < l.length → (V.getD i none).isSome = L.getD i true) ∧ Φ V W ∧ SteadyJ l (known V) a0 (fun _ => True) (fun _ _ => True) L a W)
    (fun L a W h => by obtain ⟨V, _, _, _, h⟩ := h; rw [h.size]; simp) (fun L a W i h hi => ?_) (fun L a W h hr => ?_) _ _ _ _
    ⟨List.replicate l.length none, by simp, fun i hi => ?_, h0, by simp, fun i o hi hL => ?_, trivial, fun j hj hL => trivial, rfl, rfl, fun t _ => rfl, fun j o v t hj _ _ hL => ?_⟩ ?_
  · obtain ⟨V, hlen, hV, hΦ, h⟩ := h
    unfold Region.ready at hi
    simp only [List.mem_filter, List.mem_range, Bool.and_eq_true, Bool.not_eq_true'] at hi
    obtain ⟨hlt, hun, hrd⟩ := hi
    have hil : i < l.length := by simpa using hlt
    obtain ⟨o, ho⟩ : ∃ o, l[i]? = some o := ⟨_, List.getElem?_eq_getElem hil⟩
    have hoa : l.toArray[i]? = some o := by simpa using ho
    rw [hoa] at hrd
    simp only [Option.map_some, Option.getD_some, Array.all_eq_true'] at hrd
    have hrdy : ∀ k ∈ dirOf o, L.getD k true = true := fun k hk => by
      unfold dirOf at hk
      obtain ⟨e, he, rfl⟩ := List.mem_map.1 hk
      obtain ⟨he1, he2⟩ := List.mem_filter.1 he
      have h1 := hrd e (by simpa using he1)
      rw [he2] at h1
      simp only [Bool.not_true, Bool.false_or] at h1
      have hk2 := (steadyOk_at hok ho).2.1 e.on hk
      rw [Array.getD_eq_getD_getElem?] at h1 ⊢
      rw [Array.getElem?_eq_getElem (by rw [h.size]; omega)] at h1 ⊢
      exact h1
    have hiV : V.getD i none = none := by
      have := hV i hil
      rw [hun] at this
      cases hx : V.getD i none with
      | none => rfl
      | some v => exact absurd (hx ▸ this) (by simp)
    obtain ⟨V', hlk, hag, hst⟩ := hstep i o V W ho hlen hiV (fun k hk => by rw [hV k (by have := (steadyOk_at hok ho).2.1 k hk; omega)]; exact hrdy k hk) hΦ (fun j x hj hs k hk => by
      have hjl := (List.getElem?_eq_some_iff.1 hj).1
      have h1 : L.getD j true = true := by rw [← hV j hjl]; exact hs
      have h2 := h.shut j x hj h1 k hk
      rw [hV k (by have := (steadyOk_at hok hj).2.1 k hk; omega)]; exact h2)
    have h' : SteadyJ l V' a0 (fun _ => True) (fun _ _ => True) L a W := ⟨h.size, h.shut, trivial, fun _ _ _ => trivial, h.defers, h.tsize, h.old, fun j x v t hj hv hd hL => by
      have hjl := (List.getElem?_eq_some_iff.1 hj).1
      have h1 := hV j hjl
      rw [hL] at h1
      obtain ⟨u, hu⟩ := Option.isSome_iff_exists.1 h1
      have h2 := hag j u hu
      rw [hv] at h2
      injection h2 with h2
      refine h.done j x v t hj ?_ hd hL
      rw [known_at (by rw [hlen]; exact hjl), hu, h2]; rfl⟩
    have hlook := h'.looks hok hlk ho hun hrdy
    refine StepZ.wpOpIn hoa (noDefer_at hnd ho) hst ?_ ?_ (fun u W' hS' => ⟨V.set i (some u), by simp [hlen], fun j hj => ?_, hS', (h.turn hun u).put hok ho (by unfold known; simp [hlen, hil]) hun hrdy ⟨trivial, trivial, fun _ _ => trivial⟩⟩)
    · refine execOp_congr o (fun cs b e => ?_) (fun x hx => ?_)
      · have := (steadyOk_at hok ho).1
        rw [e] at this
        cases this
      · cases x with
        | tmp t =>
          have := hlook t (by unfold Oper.looksAt; exact List.mem_append_left _ (List.mem_filterMap.2 ⟨.tmp t, by simpa using hx, rfl⟩))
          show a.tmps.getD t undef = (stateAt l V' a0 i).tmps.getD t undef
          rw [Array.getD_eq_getD_getElem?, Array.getD_eq_getD_getElem?, this]
        | _ => rfl
    · unfold Region.wanted
      cases hg : o.guard with
      | none => rfl
      | some gw =>
        obtain ⟨q, want⟩ := gw
        have hy : yielded l.toArray a.tmps q = yielded l.toArray (stateAt l V' a0 i).tmps q := by
          unfold yielded
          cases ht : (l.toArray[q]?).bind (·.dst) with
          | none => rfl
          | some t =>
            have := hlook t (by unfold Oper.looksAt; refine List.mem_append_right _ ?_; rw [hg]; simp only [ht]; simp)
            simp only [Option.bind_some, this]
        simp only [hy]
    · by_cases hij : j = i
      · subst hij
        rw [getD_set_self]
        simp [hlen, hj]
      · rw [getD_set_other hij, ← hV j hj]
        rw [List.getD_eq_getElem?_getD, List.getElem?_set_ne (fun e => hij e.symm), ← List.getD_eq_getElem?_getD]
  · obtain ⟨V, hlen, hV, hΦ, h⟩ := h
    obtain ⟨hall, ha⟩ := h.final hok (by unfold known; simp [hlen]) hr
    rw [ha]
    exact hQ V W hlen (fun i hi => by rw [hV i hi]; exact hall i hi) hΦ
  · rw [List.getD_eq_getElem?_getD, List.getElem?_replicate, if_pos hi, Array.getD_eq_getD_getElem?, Array.getElem?_eq_getElem (by simpa using hi)]
    simp
  · have hlt := (List.getElem?_eq_some_iff.1 hi).1
    replace hL : (Array.replicate l.toArray.size false).getD i true = true := hL
    rw [Array.getD_eq_getD_getElem?, Array.getElem?_eq_getElem (by simpa using hlt)] at hL
    simp at hL
  · have hlt := (List.getElem?_eq_some_iff.1 hj).1
    rw [Array.getD_eq_getD_getElem?, Array.getElem?_eq_getElem (by simpa using hlt)] at hL
    simp at hL
  · exact Nat.le_trans (List.count_le_length) (by simp)
theorem lget_set_eq {α : Type} {V : List α} {d x : α} {i : Nat} (h : i < V.length) : (V.set i x).getD i d = x := by
  rw [List.getD_eq_getElem?_getD, List.getElem?_set_self h]; rfl
theorem lget_set_ne {α : Type} {V : List α} {d x : α} {i j : Nat} (h : j ≠ i) : (V.set i x).getD j d = V.getD j d := by
  rw [List.getD_eq_getElem?_getD, List.getElem?_set_ne (fun e => h e.symm), ← List.getD_eq_getElem?_getD]
/-- What operation i waits for, through others. -/
def cloFrom (l : List Oper) : Nat → List Nat → List Nat
  | 0, S => S
  | i + 1, S => cloFrom l i (if i ∈ S then S ++ (match l[i]? with | some o => dirOf o | none => []) else S)
theorem cloFrom_some {l : List Oper} {V : Vs} (hC : Closed l V) : ∀ (i : Nat) (S : List Nat), (∀ k ∈ S, (V.getD k none).isSome = true) → ∀ k ∈ cloFrom l i S, (V.getD k none).isSome = true
  | 0, S, h => h
  | i + 1, S, h => by
    rw [cloFrom]
    refine cloFrom_some hC i _ ?_
    split
    · rename_i hi
      intro k hk
      rcases List.mem_append.1 hk with h1 | h1
      · exact h k h1
      · cases ho : l[i]? with
        | none => rw [ho] at h1; cases h1
        | some o => rw [ho] at h1; exact hC i o ho (h i hi) k h1
    · exact h
/-- All operations are waited for by the last one. -/
def lastOk (l : List Oper) : Bool := (List.range (l.length - 1)).all fun k => (cloFrom l l.length [l.length - 1]).contains k
/-- Reads, then one last operation. -/
def StepsU (P : Program) (ops : Array Oper) (W0 : World) (D : World → Prop) : List Oper → List Value → Act → Prop
  | [o], [v], a => StepZ P ops (fun u W' => u = v ∧ D W') a o W0
  | o :: l, v :: V, a => StepZ P ops (fun u W' => u = v ∧ W' = W0) a o W0 ∧ StepsU P ops W0 D l V (a.put o.dst v)
  | _, _, _ => False
theorem StepsU.cons {ops : Array Oper} {W0 : World} {D : World → Prop} {o o' : Oper} {v v' : Value} {V : List Value} (h : StepZ P ops (fun u W' => u = v ∧ W' = W0) a o W0) (hr : StepsU P ops W0 D (o' :: l) (v' :: V) (a.put o.dst v)) : StepsU P ops W0 D (o :: o' :: l) (v :: v' :: V) a := ⟨h, hr⟩
theorem StepsU.last {ops : Array Oper} {W0 : World} {D : World → Prop} {o : Oper} {v : Value} (h : StepZ P ops (fun u W' => u = v ∧ D W') a o W0) : StepsU P ops W0 D [o] [v] a := h
theorem StepsU.at {ops : Array Oper} {W0 : World} {D : World → Prop} : ∀ {l : List Oper} {V : List Value} {a : Act}, StepsU P ops W0 D l V a → ∀ i o, l[i]? = some o →
    (i + 1 < l.length → StepZ P ops (fun u W' => u = V.getD i undef ∧ W' = W0) (stateAt l V a i) o W0) ∧ (i + 1 = l.length → StepZ P ops (fun u W' => u = V.getD i undef ∧ D W') (stateAt l V a i) o W0)
  | [], _, _, hs, i, o, h => by simp at h
  | [x], [], _, hs, i, o, h => hs.elim
  | [x], [v], a, hs, 0, o, h => by
    simp at h; subst h
    exact ⟨fun h => absurd h (by simp), fun _ => hs⟩
  | [x], [v], a, hs, i + 1, o, h => by simp at h
  | [x], v :: v' :: V, a, hs, 0, o, h => False.elim hs.2
  | [x], v :: v' :: V, a, hs, i + 1, o, h => by simp at h
  | x :: y :: l, [], a, hs, i, o, h => hs.elim
  | x :: y :: l, [v], a, hs, i, o, h => by
    have h2 := hs.2
    cases l <;> exact False.elim h2
  | x :: y :: l, v :: v' :: V, a, hs, 0, o, h => by
    simp at h; subst h
    exact ⟨fun _ => hs.1, fun h => absurd h (by simp)⟩
  | x :: y :: l, v :: v' :: V, a, hs, i + 1, o, h => by
    have := StepsU.at (l := y :: l) (V := v' :: V) hs.2 i o (by simpa using h)
    exact ⟨fun h => this.1 (by simpa using h), fun h => this.2 (by simpa using h)⟩
theorem wpIn_region_u {id l0 n : Nat} {w : World} {Q : Exit → Act → World → Prop} (D : World → Prop) (V0 : List Value) (hm : P.follows .mixedOrders = true) (hok : steadyOk l = true) (hnd : noDefer l = true) (hla : lastOk l = true) (hlen : V0.length = l.length) (hpos : 0 < l.length)
    (hs : StepsU P l.toArray { w with drawn := w.drawn + 1 } D l V0 a0) (hQ : ∀ W, D W → Q .normal (putAll l V0 a0) W) : (Code.region id l.toArray true).wpIn (Fence.wide.inRound l0) n P Q a0 w := by
  refine wpIn_region_z (fun V W => (V.getD (l.length - 1) none = none → W = { w with drawn := w.drawn + 1 }) ∧ (∀ y, V.getD (l.length - 1) none = some y → D W) ∧ ∀ j x, V.getD j none = some x → x = V0.getD j undef) hm hok hnd
    ⟨fun _ => rfl, fun y e => ?_, fun j x e => ?_⟩ (fun i o V W h1 h2 h3 h4 h5 h6 => ?_) (fun V W h1 h2 h3 => ?_)
  · rw [List.getD_eq_getElem?_getD, List.getElem?_replicate] at e; split at e <;> simp at e
  · rw [List.getD_eq_getElem?_getD, List.getElem?_replicate] at e; split at e <;> simp at e
  · have hil : i < l.length := (List.getElem?_eq_some_iff.1 h1).1
    have hagree : ∀ j v, V.getD j none = some v → V0[j]? = some v := fun j v hv => by
      have hjl : j < V.length := by
        rcases Nat.lt_or_ge j V.length with h | h
        · exact h
        · rw [List.getD_eq_getElem?_getD, List.getElem?_eq_none h] at hv; cases hv
      have := h5.2.2 j v hv
      rw [List.getElem?_eq_getElem (by omega), this, List.getD_eq_getElem?_getD, List.getElem?_eq_getElem (by omega)]; rfl
    have hlast : V.getD (l.length - 1) none = none := by
      rcases Nat.lt_or_ge i (l.length - 1) with h | h
      · cases hv : V.getD (l.length - 1) none with
        | none => rfl
        | some y =>
          have hc := List.all_eq_true.1 hla i (List.mem_range.2 h)
          have := cloFrom_some h6 l.length [l.length - 1] (fun k hk => by rw [List.mem_singleton.1 hk, hv]; rfl) i (by simpa using hc)
          rw [h3] at this; cases this
      · rw [show l.length - 1 = i by omega]; exact h3
    obtain rfl := h5.1 hlast
    have hst := hs.at i o h1
    refine ⟨V0, hlen, hagree, ?_⟩
    have hset : ∀ u, u = V0.getD i undef → ∀ j x, (V.set i (some u)).getD j none = some x → x = V0.getD j undef := fun u hu j x hx => by
      by_cases hji : j = i
      · subst hji
        rw [lget_set_eq (by omega)] at hx
        cases hx; exact hu
      · rw [lget_set_ne hji] at hx
        exact h5.2.2 j x hx
    rcases Nat.lt_or_ge (i + 1) l.length with h | h
    · refine (hst.1 h).imp fun u W' ⟨hu, hw⟩ => ⟨fun _ => hw, fun y e => ?_, hset u hu⟩
      rw [lget_set_ne (by omega), hlast] at e; cases e
    · have hi : i = l.length - 1 := by omega
      refine (hst.2 (by omega)).imp fun u W' ⟨hu, hd⟩ => ⟨fun e => ?_, fun y e => hd, hset u hu⟩
      rw [← hi, lget_set_eq (by omega)] at e
      cases e
  · have hkn : known V = V0 := by
      refine List.ext_getElem? fun j => ?_
      rcases Nat.lt_or_ge j l.length with hj | hj
      · rw [known_at (by omega)]
        obtain ⟨v, hv⟩ := Option.isSome_iff_exists.1 (h2 j hj)
        rw [hv, h3.2.2 j v hv, List.getElem?_eq_getElem (by omega), List.getD_eq_getElem?_getD, List.getElem?_eq_getElem (by omega)]; rfl
      · rw [List.getElem?_eq_none (by unfold known; rw [List.length_map]; omega), List.getElem?_eq_none (by omega)]
    rw [hkn]
    obtain ⟨v, hv⟩ := Option.isSome_iff_exists.1 (h2 (l.length - 1) (by omega))
    exact hQ W (h3.2.1 v hv)
end
end Go.Proofs.YtccdnieoaejgdaaGreatDoor
