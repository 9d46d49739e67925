/-
  A drawn region in which some operations (the told ones) turn what lies there, and the others only add: what is known, by which of the told ones have been done.
  A drawn region with told operations; what lies there may be told by the values that they have used; what is known of two values together.
  Plain law: lines in memory, the error of lines, and where sorts lack.
  What reading lines back computes, in plain words. No program in sight.
-/
import Derived.Test.YtccdnieoaejgdaaGreatDoorT2AN
import Derived.Test.YtccdnieoaejgdaaGreatDoorT2AJ
import Derived.Test.YtccdnieoaejgdaaGreatDoorT2AI
set_option linter.unusedVariables false
set_option linter.unusedSimpArgs false
set_option linter.unusedSectionVars false
namespace Go.Proofs.YtccdnieoaejgdaaGreatDoor
open Go.RowKit

section
variable {P : Program} {l : List Oper} {a a0 : Act}
/-- Which of the told operations have been done. -/
def flagsOf (sp : List Nat) (V : Vs) : List Bool := sp.map fun j => (V.getD j none).isSome
def flSet : List Nat → List Bool → Nat → List Bool
  | s :: sp, b :: fl, i => (if s = i then true else b) :: flSet sp fl i
  | _, _, _ => []
theorem flagsOf_set (V : Vs) {i : Nat} (hi : i < V.length) (u : Value) : ∀ sp : List Nat, flagsOf sp (V.set i (some u)) = flSet sp (flagsOf sp V) i
  | [] => rfl
  | s :: sp => by
    have ih := flagsOf_set V hi u sp
    unfold flagsOf at ih ⊢
    rw [List.map_cons, List.map_cons, flSet, ih]
    by_cases h : s = i
    · subst h; rw [if_pos rfl, lget_set_eq hi]; rfl
    · rw [if_neg h, lget_set_ne h]
theorem flSet_off (V : Vs) {i : Nat} : ∀ sp : List Nat, sp.contains i = false → flSet sp (flagsOf sp V) i = flagsOf sp V
  | [], _ => rfl
  | s :: sp, h => by
    have h1 : ¬ s = i := fun e => by subst e; simp at h
    have h2 : sp.contains i = false := by
      simp only [List.contains_cons, Bool.or_eq_false_iff] at h; exact h.2
    have ih := flSet_off V sp h2
    unfold flagsOf at ih ⊢
    rw [List.map_cons, flSet, if_neg h1, ih]
/-- What an operation does to what lies there. -/
def Turn (l : List Oper) (sp : List Nat) (p : Nat → Value → List Bool → World → Prop) (S : List Bool → World → Prop) (i : Nat) (fl : List Bool) (W W' : World) : Prop :=
  match sp.contains i with
  | true => S (flSet sp fl i) W' ∧ ∀ k v, (cloFrom l l.length [k]).contains i = false → p k v fl W → p k v (flSet sp fl i) W'
  | false => Ext W W'
theorem clo_no {α : Prop} {b : Bool} (h : b = false) (h2 : b = true) : α := by rw [h] at h2; cases h2
theorem Turn.ext {sp : List Nat} {p : Nat → Value → List Bool → World → Prop} {S : List Bool → World → Prop} {i : Nat} {fl : List Bool} {W W' : World} (h : sp.contains i = false) (hx : Ext W W') : Turn l sp p S i fl W W' := by
  unfold Turn; rw [h]; exact hx
theorem Turn.sp {sp : List Nat} {p : Nat → Value → List Bool → World → Prop} {S : List Bool → World → Prop} {i : Nat} {fl : List Bool} {W W' : World} (h : sp.contains i = true) (hS : S (flSet sp fl i) W') (hp : ∀ k v, (cloFrom l l.length [k]).contains i = false → p k v fl W → p k v (flSet sp fl i) W') : Turn l sp p S i fl W W' := by
  unfold Turn; rw [h]; exact ⟨hS, hp⟩
def givesS (kn : List (Option Value)) (p : Nat → Value → List Bool → World → Prop) (i : Nat) (u : Value) (fl : List Bool) (W : World) : Prop :=
  match kn.getD i none with
  | some c => u = c
  | none => p i u fl W
theorem givesS_k {kn : List (Option Value)} {p : Nat → Value → List Bool → World → Prop} {i : Nat} {c : Value} {fl : List Bool} {W : World} (h : kn.getD i none = some c) : givesS kn p i c fl W := by unfold givesS; rw [h]
theorem givesS_e {kn : List (Option Value)} {p : Nat → Value → List Bool → World → Prop} {i : Nat} {u : Value} {fl : List Bool} {W : World} (h : kn.getD i none = none) (hp : p i u fl W) : givesS kn p i u fl W := by unfold givesS; rw [h]; exact hp
theorem flen1 {fl : List Bool} (h : fl.length = 1) : ∃ a, fl = [a] := by
  match fl, h with
  | [a], _ => exact ⟨a, rfl⟩
theorem flen2 {fl : List Bool} (h : fl.length = 2) : ∃ a b, fl = [a, b] := by
  match fl, h with
  | [a, b], _ => exact ⟨a, b, rfl⟩
theorem flen3 {fl : List Bool} (h : fl.length = 3) : ∃ a b c, fl = [a, b, c] := by
  match fl, h with
  | [a, b, c], _ => exact ⟨a, b, c, rfl⟩
/-- The operations one by one. -/
def StepsS (P : Program) (sp : List Nat) (kn : List (Option Value)) (p : Nat → Value → List Bool → World → Prop) (S : List Bool → World → Prop) (l0 : List Oper) (a0 : Act) : Nat → List Oper → Prop
  | _, [] => True
  | i, o :: l => (∀ (U : Nat → Value) (fl : List Bool) (W : World), S fl W → fl.length = sp.length →
      (∀ q, q < sp.length → (cloFrom l0 l0.length [sp.getD q 0]).contains i = true → fl.getD q false = false) →
      (∀ q, q < sp.length → (cloFrom l0 l0.length (dirOf o)).contains (sp.getD q 0) = true → fl.getD q false = true) →
      (∀ k ∈ dirOf o, kn.getD k none = none → p k (U k) fl W) →
      StepZ P l0.toArray (fun u W' => Turn l0 sp p S i fl W W' ∧ givesS kn p i u (flSet sp fl i) W') (stateAt l0 (vu kn 0 U) a0 i) o W) ∧ StepsS P sp kn p S l0 a0 (i + 1) l
theorem StepsS.at {sp : List Nat} {kn : List (Option Value)} {p : Nat → Value → List Bool → World → Prop} {S : List Bool → World → Prop} {l0 : List Oper} : ∀ {l : List Oper} {k : Nat}, StepsS P sp kn p S l0 a0 k l → ∀ i o, l[i]? = some o →
    ∀ (U : Nat → Value) (fl : List Bool) (W : World), S fl W → fl.length = sp.length →
      (∀ q, q < sp.length → (cloFrom l0 l0.length [sp.getD q 0]).contains (k + i) = true → fl.getD q false = false) →
      (∀ q, q < sp.length → (cloFrom l0 l0.length (dirOf o)).contains (sp.getD q 0) = true → fl.getD q false = true) →
      (∀ k ∈ dirOf o, kn.getD k none = none → p k (U k) fl W) →
      StepZ P l0.toArray (fun u W' => Turn l0 sp p S (k + i) fl W W' ∧ givesS kn p (k + i) u (flSet sp fl (k + i)) W') (stateAt l0 (vu kn 0 U) a0 (k + i)) o W
  | [], _, _, i, o, h => by simp at h
  | x :: l, k, hs, 0, o, h => by
    simp at h; subst h
    exact hs.1
  | x :: l, k, hs, i + 1, o, h => by
    have := StepsS.at hs.2 i o (by simpa using h)
    rwa [show k + 1 + i = k + (i + 1) by omega] at this
/-- What holds while the region goes on. -/
structure PhiS (sp : List Nat) (kn : List (Option Value)) (p : Nat → Value → List Bool → World → Prop) (S : List Bool → World → Prop) (V : Vs) (W : World) : Prop where
  s : S (flagsOf sp V) W
  v : ∀ k v, V.getD k none = some v → givesS kn p k v (flagsOf sp V) W
variable {sp : List Nat} {kn : List (Option Value)} {p : Nat → Value → List Bool → World → Prop} {S : List Bool → World → Prop}
theorem PhiS.step (hkn : kn.length = l.length) (hS : ∀ fl W W', S fl W → Ext W W' → S fl W') (hR : ∀ k v fl W W', p k v fl W → Ext W W' → p k v fl W') (hs : StepsS P sp kn p S l a0 0 l)
    (i : Nat) (o : Oper) (V : Vs) (W : World) (h1 : l[i]? = some o) (h2 : V.length = l.length) (h3 : V.getD i none = none) (h4 : ∀ k ∈ dirOf o, (V.getD k none).isSome = true) (h5 : PhiS sp kn p S V W) (h6 : Closed l V) :
    ∃ V' : List Value, V'.length = l.length ∧ (∀ j v, V.getD j none = some v → V'[j]? = some v) ∧ StepZ P l.toArray (fun u W' => PhiS sp kn p S (V.set i (some u)) W') (stateAt l V' a0 i) o W := by
  have hil : i < V.length := by rw [h2]; exact (List.getElem?_eq_some_iff.1 h1).1
  have hfl : ∀ q, q < sp.length → (flagsOf sp V).getD q false = (V.getD (sp.getD q 0) none).isSome := fun q hq => by
    unfold flagsOf
    rw [List.getD_eq_getElem?_getD, List.getElem?_map, List.getElem?_eq_getElem hq, List.getD_eq_getElem?_getD (l := sp), List.getElem?_eq_getElem hq]; rfl
  have this := hs.at i o h1 (fun k => (V.getD k none).getD undef) (flagsOf sp V) W h5.s (by unfold flagsOf; simp) (fun q hq hc => by
      rw [Nat.zero_add] at hc
      rw [hfl q hq]
      cases hv : (V.getD (sp.getD q 0) none).isSome with
      | false => rfl
      | true =>
        have := cloFrom_some h6 l.length [sp.getD q 0] (fun k hk => by rw [List.mem_singleton.1 hk]; exact hv) i (by simpa using hc)
        rw [h3] at this; cases this) (fun q hq hc => by
      rw [hfl q hq]
      exact cloFrom_some h6 l.length (dirOf o) h4 _ (by simpa using hc)) (fun k hk hn => by
      obtain ⟨v, hv⟩ := Option.isSome_iff_exists.1 (h4 k hk)
      have h9 := h5.v k v hv
      unfold givesS at h9
      rw [hn] at h9
      rw [hv]; exact h9)
  rw [Nat.zero_add] at this
  refine ⟨_, by rw [vu_len, hkn], fun j v hv => ?_, this.imp fun u W' ⟨hx, hr⟩ => ?_⟩
  · have hjl : j < kn.length := by
      rcases Nat.lt_or_ge j V.length with h | h
      · omega
      · rw [List.getD_eq_getElem?_getD, List.getElem?_eq_none h] at hv; cases hv
    rw [vu_at _ _ _ _ hjl, Nat.zero_add]
    have h9 := h5.v j v hv
    unfold givesS at h9
    cases hc : kn.getD j none with
    | none => rw [hv]; rfl
    | some c =>
      rw [hc] at h9
      simp only at h9
      rw [h9]; rfl
  · have hset := flagsOf_set V hil u sp
    unfold Turn at hx
    cases hc : sp.contains i with
    | true =>
      rw [hc] at hx
      simp only at hx
      refine ⟨by rw [hset]; exact hx.1, fun k v hk => ?_⟩
      rw [hset]
      by_cases hki : k = i
      · subst hki
        rw [lget_set_eq hil] at hk
        cases hk
        exact hr
      · rw [lget_set_ne hki] at hk
        have h9 := h5.v k v hk
        unfold givesS at h9 ⊢
        split
        · rename_i c hc9; rw [hc9] at h9; exact h9
        · rename_i hc9; rw [hc9] at h9
          refine hx.2 k v ?_ h9
          cases hcl : (cloFrom l l.length [k]).contains i with
          | false => rfl
          | true =>
            have := cloFrom_some h6 l.length [k] (fun j hj => by rw [List.mem_singleton.1 hj, hk]; rfl) i (by simpa using hcl)
            rw [h3] at this; cases this
    | false =>
      rw [hc] at hx
      simp only at hx
      have hoff := flSet_off V sp hc
      rw [hoff] at hset hr
      refine ⟨by rw [hset]; exact hS _ _ _ h5.s hx, fun k v hk => ?_⟩
      rw [hset]
      by_cases hki : k = i
      · subst hki
        rw [lget_set_eq hil] at hk
        cases hk
        exact hr
      · rw [lget_set_ne hki] at hk
        have h9 := h5.v k v hk
        unfold givesS at h9 ⊢
        split
        · rename_i c hc9; rw [hc9] at h9; exact h9
        · rename_i hc9; rw [hc9] at h9; exact hR k v _ W W' h9 hx
theorem PhiS.zero {n : Nat} {W : World} (h0 : S (sp.map fun _ => false) W) : PhiS sp kn p S (List.replicate n none) W := by
  have e : ∀ j : Nat, (List.replicate n (none : Option Value)).getD j none = none := fun j => by
    rw [List.getD_eq_getElem?_getD, List.getElem?_replicate]; split <;> rfl
  refine ⟨?_, fun k v hk => by rw [e] at hk; cases hk⟩
  unfold flagsOf
  simpa only [e, Option.isSome_none] using h0
theorem PhiS.done (hkn : kn.length = l.length) (hsp : (sp.all fun j => decide (j < l.length)) = true) {Q : List Value → World → Prop}
    (hQ : ∀ (U : Nat → Value) (W : World), S (sp.map fun _ => true) W → (∀ k, k < l.length → kn.getD k none = none → p k (U k) (sp.map fun _ => true) W) → Q (vu kn 0 U) W)
    (V : Vs) (W : World) (h1 : V.length = l.length) (h2 : ∀ i, i < l.length → (V.getD i none).isSome = true) (h3 : PhiS sp kn p S V W) : Q (known V) W := by
  have hfl : flagsOf sp V = sp.map fun _ => true := by
    unfold flagsOf
    refine List.map_congr_left fun j hj => ?_
    exact h2 j (by have := List.all_eq_true.1 hsp j hj; simpa using this)
  have hs := h3.s
  rw [hfl] at hs
  have := hQ (fun k => (V.getD k none).getD undef) W hs (fun k hk hn => by
    obtain ⟨v, hv⟩ := Option.isSome_iff_exists.1 (h2 k hk)
    have h9 := h3.v k v hv
    unfold givesS at h9
    rw [hn, hfl] at h9
    rw [hv]; exact h9)
  rwa [show vu kn 0 (fun k => (V.getD k none).getD undef) = known V from ?_] at this
  refine List.ext_getElem? fun j => ?_
  rcases Nat.lt_or_ge j l.length with hj | hj
  · rw [vu_at _ _ _ _ (by omega), known_at (by omega), Nat.zero_add]
    obtain ⟨v, hv⟩ := Option.isSome_iff_exists.1 (h2 j hj)
    have h9 := h3.v j v hv
    unfold givesS at h9
    cases hc : kn.getD j none with
    | none => rw [hv]; rfl
    | some c =>
      rw [hc] at h9
      simp only at h9
      rw [hv, h9]; rfl
  · rw [List.getElem?_eq_none (by rw [vu_len]; omega), List.getElem?_eq_none (by unfold known; rw [List.length_map]; omega)]
/-- **A drawn region with told operations.** -/
theorem wp_region_sp {id : Nat} {w : World} {Q : Exit → Act → World → Prop} (sp : List Nat) (kn : List (Option Value)) (p : Nat → Value → List Bool → World → Prop) (S : List Bool → World → Prop) (hm : P.follows .mixedOrders = true) (hok : steadyOk l = true) (hkn : kn.length = l.length) (hsp : (sp.all fun j => decide (j < l.length)) = true)
    (hS : ∀ fl W W', S fl W → Ext W W' → S fl W') (hR : ∀ k v fl W W', p k v fl W → Ext W W' → p k v fl W') (h0 : S (sp.map fun _ => false) w.drew) (hs : StepsS P sp kn p S l a0 0 l)
    (hQ : ∀ (U : Nat → Value) (W : World), S (sp.map fun _ => true) W → (∀ k, k < l.length → kn.getD k none = none → p k (U k) (sp.map fun _ => true) W) → Q .normal (putAll l (vu kn 0 U) a0) W) : (Code.region id l.toArray true).wp P Q a0 w :=
  wp_region_z (PhiS sp kn p S) hm hok (PhiS.zero h0) (PhiS.step hkn hS hR hs) (PhiS.done (Q := fun Vs W => Q .normal (putAll l Vs a0) W) hkn hsp hQ)
theorem wpIn_region_sp {id l0 n : Nat} {w : World} {Q : Exit → Act → World → Prop} (sp : List Nat) (kn : List (Option Value)) (p : Nat → Value → List Bool → World → Prop) (S : List Bool → World → Prop) (hm : P.follows .mixedOrders = true) (hok : steadyOk l = true) (hnd : noDefer l = true) (hkn : kn.length = l.length) (hsp : (sp.all fun j => decide (j < l.length)) = true)
    (hS : ∀ fl W W', S fl W → Ext W W' → S fl W') (hR : ∀ k v fl W W', p k v fl W → Ext W W' → p k v fl W') (h0 : S (sp.map fun _ => false) w.drew) (hs : StepsS P sp kn p S l a0 0 l)
    (hQ : ∀ (U : Nat → Value) (W : World), S (sp.map fun _ => true) W → (∀ k, k < l.length → kn.getD k none = none → p k (U k) (sp.map fun _ => true) W) → Q .normal (putAll l (vu kn 0 U) a0) W) : (Code.region id l.toArray true).wpIn (Fence.wide.inRound l0) n P Q a0 w :=
  wpIn_region_z (PhiS sp kn p S) hm hok hnd (PhiS.zero h0) (PhiS.step hkn hS hR hs) (PhiS.done (Q := fun Vs W => Q .normal (putAll l Vs a0) W) hkn hsp hQ)
end
end Go.Proofs.YtccdnieoaejgdaaGreatDoor
namespace Go.Proofs.YtccdnieoaejgdaaGreatDoor
open Go.RowKit

section
variable {P : Program} {l : List Oper} {a a0 : Act}
/-- What is known of an operation's value and an earlier one together. -/
def RelS (kn : List (Option Value)) (p : Nat → Value → List Bool → World → Prop) (r : Nat → Nat → Value → Value → Prop) (i : Nat) (u : Value) (fl : List Bool) (W : World) : Prop := ∀ j v, j ≠ i → kn.getD j none = none → p j v fl W → r j i v u ∧ r i j u v
theorem RelS.of {kn : List (Option Value)} {p : Nat → Value → List Bool → World → Prop} {r : Nat → Nat → Value → Value → Prop} {i : Nat} {u : Value} {fl : List Bool} {W : World} (h : ∀ j v, j ≠ i → kn.getD j none = none → p j v fl W → r j i v u ∧ r i j u v) : RelS kn p r i u fl W := h
def upd (U : Nat → Value) (i : Nat) (u : Value) : Nat → Value := fun k => if k = i then u else U k
def uOf (V : Vs) : Nat → Value := fun k => (V.getD k none).getD undef
theorem uOf_set (V : Vs) {i : Nat} (hi : i < V.length) (u : Value) : uOf (V.set i (some u)) = upd (uOf V) i u := by
  funext k
  unfold uOf upd
  by_cases h : k = i
  · subst h; rw [if_pos rfl, lget_set_eq hi]; rfl
  · rw [if_neg h, lget_set_ne h]
def TurnV (l : List Oper) (kn : List (Option Value)) (D : List Nat) (r : Nat → Nat → Value → Value → Prop) (sp : List Nat) (p : Nat → Value → List Bool → World → Prop) (S : (Nat → Value) → List Bool → World → Prop) (U : Nat → Value) (i : Nat) (u : Value) (fl : List Bool) (W W' : World) : Prop :=
  match sp.contains i with
  | true => S (upd U i u) (flSet sp fl i) W' ∧ ∀ k v, (cloFrom l l.length [k]).contains i = false → p k v fl W → (∀ j ∈ D, j ≠ k → kn.getD j none = none → r j k (U j) v) → p k v (flSet sp fl i) W'
  | false => Ext W W'
theorem TurnV.ext {kn : List (Option Value)} {D : List Nat} {r : Nat → Nat → Value → Value → Prop} {sp : List Nat} {p : Nat → Value → List Bool → World → Prop} {S : (Nat → Value) → List Bool → World → Prop} {U : Nat → Value} {i : Nat} {u : Value} {fl : List Bool} {W W' : World} (h : sp.contains i = false) (hx : Ext W W') : TurnV l kn D r sp p S U i u fl W W' := by
  unfold TurnV; rw [h]; exact hx
theorem TurnV.sp {kn : List (Option Value)} {D : List Nat} {r : Nat → Nat → Value → Value → Prop} {sp : List Nat} {p : Nat → Value → List Bool → World → Prop} {S : (Nat → Value) → List Bool → World → Prop} {U : Nat → Value} {i : Nat} {u : Value} {fl : List Bool} {W W' : World} (h : sp.contains i = true) (hS : S (upd U i u) (flSet sp fl i) W') (hp : ∀ k v, (cloFrom l l.length [k]).contains i = false → p k v fl W → (∀ j ∈ D, j ≠ k → kn.getD j none = none → r j k (U j) v) → p k v (flSet sp fl i) W') : TurnV l kn D r sp p S U i u fl W W' := by
  unfold TurnV; rw [h]; exact ⟨hS, hp⟩
/-- The operations one by one. -/
def StepsV (P : Program) (sp : List Nat) (kn : List (Option Value)) (p : Nat → Value → List Bool → World → Prop) (S : (Nat → Value) → List Bool → World → Prop) (r : Nat → Nat → Value → Value → Prop) (l0 : List Oper) (a0 : Act) : Nat → List Oper → Prop
  | _, [] => True
  | i, o :: l => (∀ (U : Nat → Value) (fl : List Bool) (W : World), S U fl W → fl.length = sp.length →
      (∀ q, q < sp.length → (cloFrom l0 l0.length [sp.getD q 0]).contains i = true → fl.getD q false = false) →
      (∀ q, q < sp.length → (cloFrom l0 l0.length (dirOf o)).contains (sp.getD q 0) = true → fl.getD q false = true) →
      (∀ k ∈ dirOf o, kn.getD k none = none → p k (U k) fl W) →
      (∀ j ∈ dirOf o, ∀ q, q < sp.length → fl.getD q false = true → ∀ k, (cloFrom l0 l0.length [sp.getD q 0]).contains k = true → j ≠ k → kn.getD j none = none → kn.getD k none = none → r j k (U j) (U k)) →
      StepZ P l0.toArray (fun u W' => TurnV l0 kn (dirOf o) r sp p S U i u fl W W' ∧ givesS kn p i u (flSet sp fl i) W' ∧ RelS kn p r i u fl W) (stateAt l0 (vu kn 0 U) a0 i) o W) ∧ StepsV P sp kn p S r l0 a0 (i + 1) l
theorem StepsV.at {sp : List Nat} {kn : List (Option Value)} {p : Nat → Value → List Bool → World → Prop} {S : (Nat → Value) → List Bool → World → Prop} {r : Nat → Nat → Value → Value → Prop} {l0 : List Oper} : ∀ {l : List Oper} {k : Nat}, StepsV P sp kn p S r l0 a0 k l → ∀ i o, l[i]? = some o →
    ∀ (U : Nat → Value) (fl : List Bool) (W : World), S U fl W → fl.length = sp.length →
      (∀ q, q < sp.length → (cloFrom l0 l0.length [sp.getD q 0]).contains (k + i) = true → fl.getD q false = false) →
      (∀ q, q < sp.length → (cloFrom l0 l0.length (dirOf o)).contains (sp.getD q 0) = true → fl.getD q false = true) →
      (∀ k ∈ dirOf o, kn.getD k none = none → p k (U k) fl W) →
      (∀ j ∈ dirOf o, ∀ q, q < sp.length → fl.getD q false = true → ∀ k, (cloFrom l0 l0.length [sp.getD q 0]).contains k = true → j ≠ k → kn.getD j none = none → kn.getD k none = none → r j k (U j) (U k)) →
      StepZ P l0.toArray (fun u W' => TurnV l0 kn (dirOf o) r sp p S U (k + i) u fl W W' ∧ givesS kn p (k + i) u (flSet sp fl (k + i)) W' ∧ RelS kn p r (k + i) u fl W) (stateAt l0 (vu kn 0 U) a0 (k + i)) o W
  | [], _, _, i, o, h => by simp at h
  | x :: l, k, hs, 0, o, h => by
    simp at h; subst h
    exact hs.1
  | x :: l, k, hs, i + 1, o, h => by
    have := StepsV.at hs.2 i o (by simpa using h)
    rwa [show k + 1 + i = k + (i + 1) by omega] at this
/-- What holds while the region goes on. -/
structure PhiV (sp : List Nat) (kn : List (Option Value)) (p : Nat → Value → List Bool → World → Prop) (S : (Nat → Value) → List Bool → World → Prop) (r : Nat → Nat → Value → Value → Prop) (V : Vs) (W : World) : Prop where
  s : S (uOf V) (flagsOf sp V) W
  v : ∀ k v, V.getD k none = some v → givesS kn p k v (flagsOf sp V) W
  rr : ∀ j k v u, j ≠ k → kn.getD j none = none → kn.getD k none = none → V.getD j none = some v → V.getD k none = some u → r j k v u
variable {sp : List Nat} {kn : List (Option Value)} {p : Nat → Value → List Bool → World → Prop} {S : (Nat → Value) → List Bool → World → Prop} {r : Nat → Nat → Value → Value → Prop}
theorem PhiV.step (hkn : kn.length = l.length) (hS : ∀ U fl W W', S U fl W → Ext W W' → S U fl W') (hU : ∀ U U' fl W, fl.length = sp.length → (∀ q, q < sp.length → fl.getD q false = true → ∀ j, (cloFrom l l.length [sp.getD q 0]).contains j = true → U j = U' j) → S U fl W → S U' fl W) (hR : ∀ k v fl W W', p k v fl W → Ext W W' → p k v fl W') (hs : StepsV P sp kn p S r l a0 0 l)
    (i : Nat) (o : Oper) (V : Vs) (W : World) (h1 : l[i]? = some o) (h2 : V.length = l.length) (h3 : V.getD i none = none) (h4 : ∀ k ∈ dirOf o, (V.getD k none).isSome = true) (h5 : PhiV sp kn p S r V W) (h6 : Closed l V) :
    ∃ V' : List Value, V'.length = l.length ∧ (∀ j v, V.getD j none = some v → V'[j]? = some v) ∧ StepZ P l.toArray (fun u W' => PhiV sp kn p S r (V.set i (some u)) W') (stateAt l V' a0 i) o W := by
  have hil : i < V.length := by rw [h2]; exact (List.getElem?_eq_some_iff.1 h1).1
  have hfl : ∀ q, q < sp.length → (flagsOf sp V).getD q false = (V.getD (sp.getD q 0) none).isSome := fun q hq => by
    unfold flagsOf
    rw [List.getD_eq_getElem?_getD, List.getElem?_map, List.getElem?_eq_getElem hq, List.getD_eq_getElem?_getD (l := sp), List.getElem?_eq_getElem hq]; rfl
  have this := hs.at i o h1 (uOf V) (flagsOf sp V) W h5.s (by unfold flagsOf; simp) (fun q hq hc => by
      rw [Nat.zero_add] at hc
      rw [hfl q hq]
      cases hv : (V.getD (sp.getD q 0) none).isSome with
      | false => rfl
      | true =>
        have := cloFrom_some h6 l.length [sp.getD q 0] (fun k hk => by rw [List.mem_singleton.1 hk]; exact hv) i (by simpa using hc)
        rw [h3] at this; cases this) (fun q hq hc => by
      rw [hfl q hq]
      exact cloFrom_some h6 l.length (dirOf o) h4 _ (by simpa using hc)) (fun k hk hn => by
      obtain ⟨v, hv⟩ := Option.isSome_iff_exists.1 (h4 k hk)
      have h9 := h5.v k v hv
      unfold givesS at h9
      rw [hn] at h9
      unfold uOf
      rw [hv]; exact h9) (fun j hj q hq hfq k hk hjk hnj hnk => by
      rw [hfl q hq] at hfq
      have hks := cloFrom_some h6 l.length [sp.getD q 0] (fun k hk => by rw [List.mem_singleton.1 hk]; exact hfq) k (by simpa using hk)
      obtain ⟨x, hx⟩ := Option.isSome_iff_exists.1 (h4 j hj)
      obtain ⟨y, hy⟩ := Option.isSome_iff_exists.1 hks
      unfold uOf
      rw [hx, hy]
      exact h5.rr j k x y hjk hnj hnk hx hy)
  rw [Nat.zero_add] at this
  refine ⟨_, by rw [vu_len, hkn], fun j v hv => ?_, this.imp fun u W' ⟨hx, hr, hrr⟩ => ?_⟩
  · have hjl : j < kn.length := by
      rcases Nat.lt_or_ge j V.length with h | h
      · omega
      · rw [List.getD_eq_getElem?_getD, List.getElem?_eq_none h] at hv; cases hv
    rw [vu_at _ _ _ _ hjl, Nat.zero_add]
    have h9 := h5.v j v hv
    unfold givesS at h9
    cases hc : kn.getD j none with
    | none => unfold uOf; rw [hv]; rfl
    | some c =>
      rw [hc] at h9
      simp only at h9
      rw [h9]; rfl
  · have hset := flagsOf_set V hil u sp
    have hrn : ∀ j k v u2, j ≠ k → kn.getD j none = none → kn.getD k none = none → (V.set i (some u)).getD j none = some v → (V.set i (some u)).getD k none = some u2 → r j k v u2 := fun j k v u2 hjk hj hk e1 e2 => by
      have hp : ∀ q x, kn.getD q none = none → V.getD q none = some x → p q x (flagsOf sp V) W := fun q x hq e => by
        have h9 := h5.v q x e
        unfold givesS at h9
        rw [hq] at h9; exact h9
      by_cases hji : j = i
      · subst hji
        rw [lget_set_eq hil] at e1
        rw [lget_set_ne (fun e => hjk e.symm)] at e2
        cases e1
        exact (hrr k u2 (fun e => hjk e.symm) hk (hp k u2 hk e2)).2
      · rw [lget_set_ne hji] at e1
        by_cases hki : k = i
        · subst hki
          rw [lget_set_eq hil] at e2
          cases e2
          exact (hrr j v hjk hj (hp j v hj e1)).1
        · rw [lget_set_ne hki] at e2
          exact h5.rr j k v u2 hjk hj hk e1 e2
    unfold TurnV at hx
    cases hc : sp.contains i with
    | true =>
      rw [hc] at hx
      simp only at hx
      refine ⟨by rw [hset, uOf_set V hil]; exact hx.1, fun k v hk => ?_, hrn⟩
      rw [hset]
      by_cases hki : k = i
      · subst hki
        rw [lget_set_eq hil] at hk
        cases hk
        exact hr
      · rw [lget_set_ne hki] at hk
        have h9 := h5.v k v hk
        unfold givesS at h9 ⊢
        split
        · rename_i c hc9; rw [hc9] at h9; exact h9
        · rename_i hc9; rw [hc9] at h9
          refine hx.2 k v ?_ h9 (fun j hj hjk hn => by
            obtain ⟨x, hxj⟩ := Option.isSome_iff_exists.1 (h4 j hj)
            unfold uOf
            rw [hxj]
            exact h5.rr j k x v hjk hn hc9 hxj hk)
          cases hcl : (cloFrom l l.length [k]).contains i with
          | false => rfl
          | true =>
            have := cloFrom_some h6 l.length [k] (fun j hj => by rw [List.mem_singleton.1 hj, hk]; rfl) i (by simpa using hcl)
            rw [h3] at this; cases this
    | false =>
      rw [hc] at hx
      simp only at hx
      have hoff := flSet_off V sp hc
      rw [hoff] at hset hr
      refine ⟨by
        rw [hset]
        refine hU _ _ _ _ (by unfold flagsOf; simp) (fun q hq hfq j hj => ?_) (hS _ _ _ _ h5.s hx)
        rw [hfl q hq] at hfq
        have hjs := cloFrom_some h6 l.length [sp.getD q 0] (fun k hk => by rw [List.mem_singleton.1 hk]; exact hfq) j (by simpa using hj)
        rw [uOf_set V hil]
        unfold upd
        rw [if_neg (fun e => by subst e; rw [h3] at hjs; cases hjs)], fun k v hk => ?_, hrn⟩
      rw [hset]
      by_cases hki : k = i
      · subst hki
        rw [lget_set_eq hil] at hk
        cases hk
        exact hr
      · rw [lget_set_ne hki] at hk
        have h9 := h5.v k v hk
        unfold givesS at h9 ⊢
        split
        · rename_i c hc9; rw [hc9] at h9; exact h9
        · rename_i hc9; rw [hc9] at h9; exact hR k v _ W W' h9 hx
theorem PhiV.zero {n : Nat} {W : World} (h0 : ∀ U, S U (sp.map fun _ => false) W) : PhiV sp kn p S r (List.replicate n none) W := by
  have e : ∀ j : Nat, (List.replicate n (none : Option Value)).getD j none = none := fun j => by
    rw [List.getD_eq_getElem?_getD, List.getElem?_replicate]; split <;> rfl
  refine ⟨?_, fun k v hk => (by rw [e] at hk; cases hk), fun j k v u _ _ _ e1 => (by rw [e] at e1; cases e1)⟩
  unfold flagsOf
  simpa only [e, Option.isSome_none] using h0 _
theorem PhiV.done (hkn : kn.length = l.length) (hsp : (sp.all fun j => decide (j < l.length)) = true) {Q : List Value → World → Prop}
    (hQ : ∀ (U : Nat → Value) (W : World), S U (sp.map fun _ => true) W → (∀ k, k < l.length → kn.getD k none = none → p k (U k) (sp.map fun _ => true) W) → (∀ j k, j < l.length → k < l.length → j ≠ k → kn.getD j none = none → kn.getD k none = none → r j k (U j) (U k)) → Q (vu kn 0 U) W)
    (V : Vs) (W : World) (h1 : V.length = l.length) (h2 : ∀ i, i < l.length → (V.getD i none).isSome = true) (h3 : PhiV sp kn p S r V W) : Q (known V) W := by
  have hfl : flagsOf sp V = sp.map fun _ => true := by
    unfold flagsOf
    refine List.map_congr_left fun j hj => ?_
    exact h2 j (by have := List.all_eq_true.1 hsp j hj; simpa using this)
  have hs := h3.s
  rw [hfl] at hs
  have := hQ (uOf V) W hs (fun k hk hn => by
    obtain ⟨v, hv⟩ := Option.isSome_iff_exists.1 (h2 k hk)
    have h9 := h3.v k v hv
    unfold givesS at h9
    rw [hn, hfl] at h9
    unfold uOf
    rw [hv]; exact h9) (fun j k hj hk hjk h8 h9 => by
    obtain ⟨v, hv⟩ := Option.isSome_iff_exists.1 (h2 j hj)
    obtain ⟨u, hu⟩ := Option.isSome_iff_exists.1 (h2 k hk)
    unfold uOf
    rw [hv, hu]
    exact h3.rr j k v u hjk h8 h9 hv hu)
  rwa [show vu kn 0 (uOf V) = known V from ?_] at this
  refine List.ext_getElem? fun j => ?_
  rcases Nat.lt_or_ge j l.length with hj | hj
  · rw [vu_at _ _ _ _ (by omega), known_at (by omega), Nat.zero_add]
    obtain ⟨v, hv⟩ := Option.isSome_iff_exists.1 (h2 j hj)
    have h9 := h3.v j v hv
    unfold givesS at h9
    cases hc : kn.getD j none with
    | none => unfold uOf; rw [hv]; rfl
    | some c =>
      rw [hc] at h9
      simp only at h9
      rw [hv, h9]; rfl
  · rw [List.getElem?_eq_none (by rw [vu_len]; omega), List.getElem?_eq_none (by unfold known; rw [List.length_map]; omega)]
/-- **A drawn region with told operations.** -/
theorem wp_region_sv {id : Nat} {w : World} {Q : Exit → Act → World → Prop} (sp : List Nat) (kn : List (Option Value)) (p : Nat → Value → List Bool → World → Prop) (S : (Nat → Value) → List Bool → World → Prop) (r : Nat → Nat → Value → Value → Prop) (hm : P.follows .mixedOrders = true) (hok : steadyOk l = true) (hkn : kn.length = l.length) (hsp : (sp.all fun j => decide (j < l.length)) = true)
    (hS : ∀ U fl W W', S U fl W → Ext W W' → S U fl W') (hU : ∀ U U' fl W, fl.length = sp.length → (∀ q, q < sp.length → fl.getD q false = true → ∀ j, (cloFrom l l.length [sp.getD q 0]).contains j = true → U j = U' j) → S U fl W → S U' fl W) (hR : ∀ k v fl W W', p k v fl W → Ext W W' → p k v fl W') (h0 : ∀ U, S U (sp.map fun _ => false) w.drew) (hs : StepsV P sp kn p S r l a0 0 l)
    (hQ : ∀ (U : Nat → Value) (W : World), S U (sp.map fun _ => true) W → (∀ k, k < l.length → kn.getD k none = none → p k (U k) (sp.map fun _ => true) W) → (∀ j k, j < l.length → k < l.length → j ≠ k → kn.getD j none = none → kn.getD k none = none → r j k (U j) (U k)) → Q .normal (putAll l (vu kn 0 U) a0) W) : (Code.region id l.toArray true).wp P Q a0 w :=
  wp_region_z (PhiV sp kn p S r) hm hok (PhiV.zero h0) (PhiV.step hkn hS hU hR hs) (PhiV.done (Q := fun Vs W => Q .normal (putAll l Vs a0) W) hkn hsp hQ)
end
end Go.Proofs.YtccdnieoaejgdaaGreatDoor
namespace Go.Proofs.YtccdnieoaejgdaaGreatDoor
open Go.RowKit

/-- A line: its measure, and its sorts as they lie. -/
structure LN where
  m : Int
  s : SI
def LN.zero : LN := ⟨0, SI.none_⟩
/-- A slice of lines reads as ls. -/
def RLN (w : World) (A : Option Addr) (n : Nat) (ls : List LN) : Prop :=
  ls.length = n ∧ n ≤ 9223372036854775807 ∧ (0 < n → ∃ b off, A = some ⟨b, off, none⟩ ∧ b < w.heap.size ∧ ∀ k, k < n → w.cell? ⟨b, off + k * 2, none⟩ = some (.int .i64 (ls.getD k LN.zero).m) ∧ w.cell? ⟨b, off + k * 2 + 1, none⟩ = some (ls.getD k LN.zero).s.val) ∧
  ∀ k, k < n → RI w (ls.getD k LN.zero).s.A (ls.getD k LN.zero).s.zs.length (ls.getD k LN.zero).s.zs
theorem RLN.ext {w w' : World} {A : Option Addr} {n : Nat} {ls : List LN} (h : RLN w A n ls) (hx : Ext w w') : RLN w' A n ls :=
  ⟨h.1, h.2.1, fun hn => let ⟨b, off, ha, hb, hc⟩ := h.2.2.1 hn; ⟨b, off, ha, Nat.lt_of_lt_of_le hb hx.size, fun k hk => by
    rw [hx.cell (p := ⟨b, _, none⟩) hb, hx.cell (p := ⟨b, _, none⟩) hb]; exact hc k hk⟩, fun k hk => (h.2.2.2 k hk).ext hx⟩
end Go.Proofs.YtccdnieoaejgdaaGreatDoor
namespace Go.Proofs.YtccdnieoaejgdaaGreatDoor

/-- The words that are ended so far, and the word that goes on. -/
structure RB where
  ws : List (List UInt8)
  wd : List UInt8
def RB.fin (r : RB) : RB := ⟨if r.wd = [] then r.ws else r.ws ++ [r.wd], []⟩
def RB.step (ss : List TS) (r : RB) (s : Int) : RB :=
  if (ss.getD s.toNat TS.zero).kind = 3 then ⟨r.fin.ws, (ss.getD s.toNat TS.zero).text.data.toList⟩ else ⟨r.ws, r.wd ++ (ss.getD s.toNat TS.zero).text.data.toList⟩
/-- The first k sorts of a line are read. -/
def rbTo (ss : List TS) (l : List Int) (r : RB) : Nat → RB
  | 0 => r
  | k + 1 => (rbTo ss l r k).step ss (l.getD k 0)
/-- A word without a hyphen at its end. -/
def noHy (l : List UInt8) : List UInt8 := if l.getLast? = some 45 then l.dropLast else l
/-- A line is read. -/
def rbLine (ss : List TS) (l : List Int) (broken : Bool) (r : RB) : RB :=
  if broken = true then ⟨(rbTo ss l r l.length).ws, noHy (rbTo ss l r l.length).wd⟩ else (rbTo ss l r l.length).fin
def hasS (ss : List TS) (s : Int) : Bool := decide (0 ≤ s) && decide (s ≤ (ss.length : Int) - 1)
/-- The error of line i. -/
def rbErr (ss : List TS) (ls : List (List Int)) (i : Nat) (broken : Bool) : Int :=
  if 300 < (ls.getD i []).length then 8
  else if (ls.getD i []).any (fun s => !hasS ss s) = true then 6
  else if broken = false then 0
  else if (ls.getD i []).length = 0 ∨ (ss.getD ((ls.getD i []).getD ((ls.getD i []).length - 1) 0).toNat TS.zero).text.data.toList ≠ [45] then 3
  else if i + 1 = ls.length ∨ (ls.getD (i + 1) []).length = 0 then 25
  else if hasS ss ((ls.getD (i + 1) []).getD 0 0) = false ∨ (ss.getD ((ls.getD (i + 1) []).getD 0 0).toNat TS.zero).kind = 3 then 25 else 0
/-- The first n lines are read: the error, and what has been read. -/
def rbAll (ss : List TS) (ls : List (List Int)) (bs : List Bool) : Nat → Int × RB
  | 0 => (0, ⟨[], []⟩)
  | n + 1 => if (rbAll ss ls bs n).1 ≠ 0 then rbAll ss ls bs n else if rbErr ss ls n (bs.getD n false) ≠ 0 then (rbErr ss ls n (bs.getD n false), ⟨[], []⟩)
    else (0, rbLine ss (ls.getD n []) (bs.getD n false) (rbAll ss ls bs n).2)
/-- ReadBack of a right fount: the error and the words. -/
def backOf (ss : List TS) (ls : List (List Int)) (bs : List Bool) : Int × List (List UInt8) :=
  if bs.length ≠ ls.length then (10, []) else if 400 < ls.length then (8, []) else if (rbAll ss ls bs ls.length).1 ≠ 0 then ((rbAll ss ls bs ls.length).1, []) else (0, (rbAll ss ls bs ls.length).2.ws)
end Go.Proofs.YtccdnieoaejgdaaGreatDoor
