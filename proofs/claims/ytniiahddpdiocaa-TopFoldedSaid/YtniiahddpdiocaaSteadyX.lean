/-
  A region whose operations make memory: its values are not known ahead; a condition on values and world is kept by each operation.
-/
import Derived.Test.YtniiahddpdiocaaSteady
namespace Go.Proofs.Ytniiahddpdiocaa
open Go.RowKit

/-- What is known of the operations' values: none: not yet carried out. -/
abbrev Vs := List (Option Value)
def known (V : Vs) : List Value := V.map (·.getD undef)
/-- Whatever is carried out has what it waits for carried out. -/
def Closed (l : List Oper) (V : Vs) : Prop := ∀ j x, l[j]? = some x → (V.getD j none).isSome = true → ∀ k ∈ dirOf x, (V.getD k none).isSome = true
abbrev StepXR (P : Program) (Φ : Vs → World → Prop) (V : Vs) (i : Nat) (o : Oper) (r : Result Next) : Prop :=
  match r with
  | .ok (.value u) W' => Φ (V.set i (some u)) W'
  | .ok .skip W' => o.dst = none ∧ Φ (V.set i (some (.bool true))) W'
  | .ok (.enter f args) W' => Calls P f args W' (fun e W'' => ∃ u, e = .returned u ∧ Φ (V.set i (some u)) W'')
  | _ => False
def StepX (P : Program) (ops : Array Oper) (Φ : Vs → World → Prop) (V : Vs) (i : Nat) (a : Act) (o : Oper) (W : World) : Prop :=
  Region.wanted o (yielded ops a.tmps) = true ∧ StepXR P Φ V i o ((execOp a.eval o).run P W)
theorem known_at {V : Vs} {i : Nat} (h : i < V.length) : (known V)[i]? = some ((V.getD i none).getD undef) := by
  unfold known; simp [h]
section
variable {P : Program} {l : List Oper} {a a0 : Act} {W : World}
theorem put_none {a : Act} {v u : Value} : a.put none v = a.put none u := rfl
/-- The values known so far are changed at an operation that is still to come. -/
theorem SteadyJ.turn {V : Vs} {L : Array Bool} (h : SteadyJ l (known V) a0 (fun _ => True) (fun _ _ => True) L a W) {i : Nat} (hun : L.getD i true = false) (u : Value) :
    SteadyJ l (known (V.set i (some u))) a0 (fun _ => True) (fun _ _ => True) L a W :=
  ⟨h.size, h.shut, trivial, fun _ _ _ => trivial, h.defers, h.tsize, h.old, fun j o v t hj hv hd hL => by
    refine h.done j o v t hj ?_ hd hL
    have hne : i ≠ j := fun e => by subst e; rw [hun] at hL; cases hL
    unfold known at hv ⊢
    rw [List.getElem?_map] at hv ⊢
    rwa [List.getElem?_set_ne hne] at hv⟩
theorem SteadyJ.final (hok : steadyOk l = true) {V : List Value} {L : Array Bool} (hlen : V.length = l.length) (h : SteadyJ l V a0 (fun _ => True) (fun _ _ => True) L a W) (hr : Region.ready .any l.toArray L = []) : (∀ i, i < l.length → L.getD i true = true) ∧ a = putAll l V a0 := by
  have hall : ∀ i, i < l.length → L.getD i true = true := by
    intro i
    induction i using Nat.strongRecOn with
    | _ i ih =>
      intro hil
      rw [← Bool.not_eq_false]
      intro hun
      obtain ⟨o, ho⟩ : ∃ o, l[i]? = some o := ⟨_, List.getElem?_eq_getElem hil⟩
      have hoa : l.toArray[i]? = some o := by simpa using ho
      have hmem : i ∈ Region.ready .any l.toArray L := by
        unfold Region.ready
        simp only [List.mem_filter, List.mem_range, Bool.and_eq_true, Bool.not_eq_true']
        refine ⟨by simpa using hil, hun, ?_⟩
        rw [hoa]
        simp only [Option.map_some, Option.getD_some, Array.all_eq_true']
        intro e he
        by_cases hb : Region.binds .any e = true
        · have hk : e.on ∈ dirOf o := List.mem_map.2 ⟨e, List.mem_filter.2 ⟨by simpa using he, hb⟩, rfl⟩
          have hlt := (steadyOk_at hok ho).2.1 e.on hk
          have h1 := ih e.on hlt (by omega)
          rw [Array.getD_eq_getD_getElem?, Array.getElem?_eq_getElem (by rw [h.size]; omega)] at h1 ⊢
          rw [hb]
          simpa using h1
        · rw [Bool.not_eq_true] at hb; rw [hb]; rfl
      rw [hr] at hmem
      cases hmem
  have ha : a = putAll l V a0 := by
    rw [putAll_eq]
    obtain ⟨hz, hd⟩ := stateAt_size l V a0 l.length
    have ht : a.tmps = (stateAt l V a0 l.length).tmps := by
      apply Array.ext_getElem?
      intro t
      by_cases hex : ∃ (j : Nat) (x : Oper), l[j]? = some x ∧ x.dst = some t
      · obtain ⟨j, x, hj, hx⟩ := hex
        have hjl := (List.getElem?_eq_some_iff.1 hj).1
        obtain ⟨v, hv⟩ : ∃ v, V[j]? = some v := ⟨V[j]'(by rw [hlen]; exact hjl), List.getElem?_eq_getElem _⟩
        rw [h.done j x v t hj hv hx (hall j hjl), stateAt_own l V a0 l.length j t x v hjl hj hv hx fun q y hq hy hdy => hq (steady_unique hok hy hj hdy hx)]
      · rw [h.old t fun q y hq hy => absurd ⟨q, y, hq, hy⟩ hex, stateAt_other l V a0 l.length t fun q y _ hq hy => hex ⟨q, y, hq, hy⟩]
    obtain ⟨at_, ad⟩ := a
    have hdef := h.defers
    simp only at ht hdef
    rw [ht, hdef, ← hd]
  exact ⟨hall, ha⟩
theorem StepX.wpOp {ops : Array Oper} {Q : Exit → Act → World → Prop} {Φ : Vs → World → Prop} {V : Vs} {aT : Act} {i : Nat} {o : Oper} {K : Act → World → Prop} (hi : ops[i]? = some o) (h : StepX P ops Φ V i aT o W) (he : execOp a.eval o = execOp aT.eval o)
    (hw : Region.wanted o (yielded ops a.tmps) = Region.wanted o (yielded ops aT.tmps)) (hK : ∀ u W', Φ (V.set i (some u)) W' → K (a.put o.dst u) W') : Go.wpOp P ops Q i K a W := by
  unfold Go.wpOp
  simp only [hi]
  obtain ⟨h1, h2⟩ := h
  rw [← hw] at h1
  rw [if_pos h1]
  refine .inl ?_
  unfold Oper.wp
  rw [he]
  generalize (execOp aT.eval o).run P W = r at *
  cases r with
  | ok n w' =>
    cases n with
    | value u => exact hK _ _ h2
    | skip =>
      obtain ⟨hd, hS'⟩ := h2
      have := hK _ _ hS'
      rw [hd] at this
      show K (a.put o.dst undef) w'
      rw [hd]
      exact this
    | enter f args =>
      refine Calls.mono h2 fun e w'' he => ?_
      obtain ⟨u, rfl, hS'⟩ := he
      exact hK _ _ hS'
    | _ => exact h2.elim
  | halt x w' => exact h2.elim
/-- **A region, by a condition on its values and the world, in every order that its edges allow.** -/
theorem wp_region_exist {id : Nat} {w : World} {Q : Exit → Act → World → Prop} (Φ : Vs → World → Prop) (hm : P.follows .mixedOrders = true) (hok : steadyOk l = true)
    (h0 : Φ (List.replicate l.length none) { w with drawn := w.drawn + 1 })
    (hstep : ∀ i o V W, l[i]? = some o → V.length = l.length → V.getD i none = none → (∀ k ∈ dirOf o, (V.getD k none).isSome = true) → Φ V W → Closed l V → StepX P l.toArray Φ V i (stateAt l (known V) a0 i) o W)
    (hQ : ∀ V W, V.length = l.length → (∀ i, i < l.length → (V.getD i none).isSome = true) → Φ V W → Q .normal (putAll l (known V) a0) W) : (Code.region id l.toArray true).wp P Q a0 w := by
  refine wp_region_any hm ?_
  refine wpAny_inv (fun L a W => ∃ V : Vs, V.length = l.length ∧ (∀ i, i < l.length → (V.getD i none).isSome = L.getD i true) ∧ Φ V W ∧ SteadyJ l (known V) a0 (fun _ => True) (fun _ _ => True) L a W)
    (fun L a W h => by obtain ⟨V, _, _, _, h⟩ := h; rw [h.size]; simp) (fun L a W i h hi => ?_) (fun L a W h hr => ?_) _ _ _ _
    ⟨List.replicate l.length none, by simp, fun i hi => ?_, h0, by simp, fun i o hi hL => ?_, trivial, fun j hj hL => trivial, rfl, rfl, fun t _ => rfl, fun j o v t hj _ _ hL => ?_⟩ ?_
  · obtain ⟨V, hlen, hV, hΦ, h⟩ := h
    unfold Region.ready at hi
    simp only [List.mem_filter, List.mem_range, Bool.and_eq_true, Bool.not_eq_true'] at hi
    obtain ⟨hlt, hun, hrd⟩ := hi
    have hil : i < l.length := by simpa using hlt
    obtain ⟨o, ho⟩ : ∃ o, l[i]? = some o := ⟨_, List.getElem?_eq_getElem hil⟩
    have hoa : l.toArray[i]? = some o := by simpa using ho
    rw [hoa] at hrd
    simp only [Option.map_some, Option.getD_some, Array.all_eq_true'] at hrd
    have hrdy : ∀ k ∈ dirOf o, L.getD k true = true := fun k hk => by
      unfold dirOf at hk
      obtain ⟨e, he, rfl⟩ := List.mem_map.1 hk
      obtain ⟨he1, he2⟩ := List.mem_filter.1 he
      have h1 := hrd e (by simpa using he1)
      rw [he2] at h1
      simp only [Bool.not_true, Bool.false_or] at h1
      have hk2 := (steadyOk_at hok ho).2.1 e.on hk
      rw [Array.getD_eq_getD_getElem?] at h1 ⊢
      rw [Array.getElem?_eq_getElem (by rw [h.size]; omega)] at h1 ⊢
      exact h1
    have hlk : (known V).length = l.length := by unfold known; simp [hlen]
    have hlook := h.looks hok hlk ho hun hrdy
    have hiV : V.getD i none = none := by
      have := hV i hil
      rw [hun] at this
      cases hx : V.getD i none with
      | none => rfl
      | some v => exact absurd (hx ▸ this) (by simp)
    have hst := hstep i o V W ho hlen hiV (fun k hk => by rw [hV k (by have := (steadyOk_at hok ho).2.1 k hk; omega)]; exact hrdy k hk) hΦ (fun j x hj hs k hk => by
      have hjl := (List.getElem?_eq_some_iff.1 hj).1
      have h1 : L.getD j true = true := by rw [← hV j hjl]; exact hs
      have h2 := h.shut j x hj h1 k hk
      rw [hV k (by have := (steadyOk_at hok hj).2.1 k hk; omega)]; exact h2)
    refine StepX.wpOp hoa hst ?_ ?_ (fun u W' hS' => ⟨V.set i (some u), by simp [hlen], fun j hj => ?_, hS', (h.turn hun u).put hok ho (by unfold known; simp [hlen, hil]) hun hrdy ⟨trivial, trivial, fun _ _ => trivial⟩⟩)
    · refine execOp_congr o (fun cs b e => ?_) (fun x hx => ?_)
      · have := (steadyOk_at hok ho).1
        rw [e] at this
        cases this
      · cases x with
        | tmp t =>
          have := hlook t (by unfold Oper.looksAt; exact List.mem_append_left _ (List.mem_filterMap.2 ⟨.tmp t, by simpa using hx, rfl⟩))
          show a.tmps.getD t undef = (stateAt l (known V) a0 i).tmps.getD t undef
          rw [Array.getD_eq_getD_getElem?, Array.getD_eq_getD_getElem?, this]
        | _ => rfl
    · unfold Region.wanted
      cases hg : o.guard with
      | none => rfl
      | some gw =>
        obtain ⟨q, want⟩ := gw
        have hy : yielded l.toArray a.tmps q = yielded l.toArray (stateAt l (known V) a0 i).tmps q := by
          unfold yielded
          cases ht : (l.toArray[q]?).bind (·.dst) with
          | none => rfl
          | some t =>
            have := hlook t (by unfold Oper.looksAt; refine List.mem_append_right _ ?_; rw [hg]; simp only [ht]; simp)
            simp only [Option.bind_some, this]
        simp only [hy]
    · by_cases hij : j = i
      · subst hij
        rw [getD_set_self]
        simp [hlen, hj]
      · rw [getD_set_other hij, ← hV j hj]
        rw [List.getD_eq_getElem?_getD, List.getElem?_set_ne (fun e => hij e.symm), ← List.getD_eq_getElem?_getD]
  · obtain ⟨V, hlen, hV, hΦ, h⟩ := h
    obtain ⟨hall, ha⟩ := h.final hok (by unfold known; simp [hlen]) hr
    rw [ha]
    exact hQ V W hlen (fun i hi => by rw [hV i hi]; exact hall i hi) hΦ
  · rw [List.getD_eq_getElem?_getD, List.getElem?_replicate, if_pos hi, Array.getD_eq_getD_getElem?, Array.getElem?_eq_getElem (by simpa using hi)]
    simp
  · have hlt := (List.getElem?_eq_some_iff.1 hi).1
    replace hL : (Array.replicate l.toArray.size false).getD i true = true := hL
    rw [Array.getD_eq_getD_getElem?, Array.getElem?_eq_getElem (by simpa using hlt)] at hL
    simp at hL
  · have hlt := (List.getElem?_eq_some_iff.1 hj).1
    rw [Array.getD_eq_getD_getElem?, Array.getElem?_eq_getElem (by simpa using hlt)] at hL
    simp at hL
  · exact Nat.le_trans (List.count_le_length) (by simp)
/-- The operations one by one. -/
def StepsX (P : Program) (Φ : Vs → World → Prop) (l0 : List Oper) (a0 : Act) : Nat → List Oper → Prop
  | _, [] => True
  | i, o :: l => (∀ V W, V.length = l0.length → V.getD i none = none → (∀ k ∈ dirOf o, (V.getD k none).isSome = true) → Φ V W → Closed l0 V → StepX P l0.toArray Φ V i (stateAt l0 (known V) a0 i) o W) ∧ StepsX P Φ l0 a0 (i + 1) l
theorem StepsX.at {Φ : Vs → World → Prop} {l0 : List Oper} : ∀ {l : List Oper} {k : Nat}, StepsX P Φ l0 a0 k l → ∀ i o V W, l[i]? = some o → V.length = l0.length → V.getD (k + i) none = none → (∀ q ∈ dirOf o, (V.getD q none).isSome = true) → Φ V W → Closed l0 V → StepX P l0.toArray Φ V (k + i) (stateAt l0 (known V) a0 (k + i)) o W
  | [], _, _, i, o, V, W, h => by simp at h
  | x :: l, k, hs, 0, o, V, W, h => by
    simp at h; subst h
    exact hs.1 V W
  | x :: l, k, hs, i + 1, o, V, W, h => by
    have := StepsX.at hs.2 i o V W (by simpa using h)
    rwa [show k + 1 + i = k + (i + 1) by omega] at this
theorem StepsX.all {Φ : Vs → World → Prop} (h : StepsX P Φ l a0 0 l) : ∀ i o V W, l[i]? = some o → V.length = l.length → V.getD i none = none → (∀ k ∈ dirOf o, (V.getD k none).isSome = true) → Φ V W → Closed l V → StepX P l.toArray Φ V i (stateAt l (known V) a0 i) o W := fun i o V W h1 h2 h3 h4 h5 h6 => by
  have := h.at i o V W h1 h2 (by rwa [Nat.zero_add]) h4 h5 h6
  rwa [Nat.zero_add] at this
theorem len8 {α : Type} {V : List α} (h : V.length = 8) : ∃ a b c d e f g i, V = [a, b, c, d, e, f, g, i] := by
  match V, h with
  | [a, b, c, d, e, f, g, i], _ => exact ⟨a, b, c, d, e, f, g, i, rfl⟩
theorem len13 {α : Type} {V : List α} (h : V.length = 13) : ∃ a b c d e f g i j k m n o, V = [a, b, c, d, e, f, g, i, j, k, m, n, o] := by
  match V, h with
  | [a, b, c, d, e, f, g, i, j, k, m, n, o], _ => exact ⟨a, b, c, d, e, f, g, i, j, k, m, n, o, rfl⟩
end
end Go.Proofs.Ytniiahddpdiocaa
