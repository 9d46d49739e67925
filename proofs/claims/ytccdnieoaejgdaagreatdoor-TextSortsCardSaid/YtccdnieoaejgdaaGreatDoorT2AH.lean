/-
  A region whose operations keep to a condition on the world: what it does in the order of the text it does in every order that its edges allow.
-/
import Derived.OrdersHeld
import Derived.Deep.MidRow
import Derived.WalkKit
set_option linter.unusedVariables false
set_option linter.unusedSimpArgs false
set_option linter.unusedSectionVars false
namespace Go.Proofs.YtccdnieoaejgdaaGreatDoor
open Go.RowKit

/-- What an operation does at a written-out state: it yields v, and S stands. -/
def StepT (P : Program) (ops : Array Oper) (S : World → Prop) (a : Act) (o : Oper) (v : Value) (W : World) : Prop :=
  if Region.wanted o (yielded ops a.tmps) = true then
    match (execOp a.eval o).run P W with
    | .ok (.value u) W' => u = v ∧ S W'
    | .ok .skip W' => undef = v ∧ S W'
    | .ok (.enter f args) W' => Calls P f args W' (fun e W'' => e = .returned v ∧ S W'')
    | _ => False
  else v = undef ∧ S W
/-- What an operation leaves: S stands, its own effect is there, and so are the effects of those before. -/
def After (S : World → Prop) (F : Nat → World → Prop) (i : Nat) (W W' : World) : Prop := S W' ∧ F i W' ∧ ∀ j, F j W → F j W'
def StepsF (P : Program) (ops : Array Oper) (S : World → Prop) (F : Nat → World → Prop) : Nat → List Oper → List Value → Act → Prop
  | i, o :: l, v :: V, a => (∀ W, S W → StepT P ops (After S F i W) a o v W) ∧ StepsF P ops S F (i + 1) l V (a.put o.dst v)
  | _, [], [], _ => True
  | _, _, _, _ => False
def StepsT (P : Program) (ops : Array Oper) (S : World → Prop) : List Oper → List Value → Act → Prop
  | o :: l, v :: V, a => (∀ W, S W → StepT P ops S a o v W) ∧ StepsT P ops S l V (a.put o.dst v)
  | [], [], _ => True
  | _, _, _ => False
/-- The state behind all operations. -/
def putAll : List Oper → List Value → Act → Act
  | o :: l, v :: V, a => putAll l V (a.put o.dst v)
  | _, _, a => a
/-- The state ahead of operation i, in the order of the text. -/
def stateAt : List Oper → List Value → Act → Nat → Act
  | o :: l, v :: V, a, i + 1 => stateAt l V (a.put o.dst v) i
  | _, _, a, _ => a
def dirOf (o : Oper) : List Nat := (o.after.toList.filter (Region.binds .any)).map (·.on)
def gatherA (acc : List (List Nat)) : List Nat → List Nat
  | [] => []
  | k :: ks => k :: (acc.getD k [] ++ gatherA acc ks)
def ancsFrom : List (List Nat) → List Oper → List (List Nat)
  | acc, [] => acc
  | acc, o :: l => ancsFrom (acc ++ [(gatherA acc (dirOf o)).eraseDups]) l
def isSel : Op → Bool
  | .select _ _ => true
  | _ => false
def steadyAt (l : List Oper) (A : List (List Nat)) (i : Nat) (o : Oper) (j : Nat) (x : Oper) : Bool :=
  i == j || match x.dst with
    | none => true
    | some d => o.dst != some d && (!(o.looksAt l.toArray).contains d || (decide (j < i) && (A.getD i []).contains j) || (decide (i < j) && (A.getD j []).contains i))
def steadyOk (l : List Oper) : Bool :=
  l.zipIdx.all fun (o, i) => !isSel o.op && (dirOf o).all (fun k => decide (k < i)) && l.zipIdx.all fun (x, j) => steadyAt l (ancsFrom [] l) i o j x
theorem steadyOk_at {l : List Oper} (h : steadyOk l = true) {i : Nat} {o : Oper} (hi : l[i]? = some o) :
    isSel o.op = false ∧ (∀ k ∈ dirOf o, k < i) ∧ ∀ j x, l[j]? = some x → steadyAt l (ancsFrom [] l) i o j x = true := by
  unfold steadyOk at h
  have h1 := List.all_eq_true.1 h (o, i) (by rw [List.mem_zipIdx_iff_getElem?]; exact hi)
  simp only [Bool.and_eq_true, Bool.not_eq_true', List.all_eq_true, decide_eq_true_eq] at h1
  obtain ⟨⟨h2, h3⟩, h4⟩ := h1
  exact ⟨h2, h3, fun j x hj => h4 (x, j) (by rw [List.mem_zipIdx_iff_getElem?]; exact hj)⟩
/-- A set of operations that holds, with each, those that it waits for. -/
def ShutD (l : List Oper) (L : Nat → Prop) : Prop := ∀ (i : Nat) (o : Oper), l[i]? = some o → L i → ∀ k ∈ dirOf o, L k
theorem gatherA_mem {acc : List (List Nat)} {L : Nat → Prop} (hacc : ∀ j, L j → ∀ i ∈ acc.getD j [], L i) : ∀ (ks : List Nat), (∀ k ∈ ks, L k) → ∀ i ∈ gatherA acc ks, L i
  | [], _, i, hi => by cases hi
  | k :: ks, hk, i, hi => by
    rcases List.mem_cons.1 hi with rfl | hi
    · exact hk _ (List.mem_cons_self ..)
    rcases List.mem_append.1 hi with hi | hi
    · exact hacc k (hk k (List.mem_cons_self ..)) i hi
    · exact gatherA_mem hacc ks (fun q hq => hk q (List.mem_cons_of_mem _ hq)) i hi
theorem ancsFrom_mem {l : List Oper} {L : Nat → Prop} (hs : ShutD l L) : ∀ (r : List Oper) (acc : List (List Nat)), (∀ k, r[k]? = l[acc.length + k]?) → (∀ j, L j → ∀ i ∈ acc.getD j [], L i) → ∀ j, L j → ∀ i ∈ (ancsFrom acc r).getD j [], L i
  | [], acc, _, hacc => hacc
  | o :: r, acc, hr, hacc => by
    refine ancsFrom_mem hs r (acc ++ [(gatherA acc (dirOf o)).eraseDups]) (fun k => ?_) (fun j hj i hi => ?_)
    · rw [List.length_append, List.length_singleton, Nat.add_assoc, Nat.add_comm 1 k]; exact hr (k + 1)
    · rw [List.getD_eq_getElem?_getD] at hi
      by_cases hlt : j < acc.length
      · rw [List.getElem?_append_left hlt, ← List.getD_eq_getElem?_getD] at hi
        exact hacc j hj i hi
      · rw [List.getElem?_append_right (by omega)] at hi
        by_cases he : j = acc.length
        · subst he
          rw [Nat.sub_self] at hi
          have hi' : i ∈ gatherA acc (dirOf o) := List.mem_eraseDups.1 hi
          exact gatherA_mem hacc _ (fun k hk => hs acc.length o (by have := hr 0; simpa using this.symm) hj k hk) i hi'
        · obtain ⟨m, hm⟩ : ∃ m, j - acc.length = m + 1 := ⟨j - acc.length - 1, by omega⟩
          rw [hm] at hi
          simp at hi
theorem ancs_mem {l : List Oper} {L : Nat → Prop} (hs : ShutD l L) {j i : Nat} (hj : L j) (hi : i ∈ (ancsFrom [] l).getD j []) : L i :=
  ancsFrom_mem hs l [] (fun k => by simp) (fun j _ i h0 => by simp at h0) j hj i hi
/-- Whatever an operation waits for stands ahead of it. -/
theorem ancs_lt {l : List Oper} (hok : steadyOk l = true) {i k : Nat} {o : Oper} (_hi : l[i]? = some o) (hk : k ∈ (ancsFrom [] l).getD i []) : k < i := by
  have hgen : ∀ (r : List Oper) (acc : List (List Nat)), (∀ q, r[q]? = l[acc.length + q]?) → (∀ j, ∀ k ∈ acc.getD j [], k < j) → ∀ j, ∀ k ∈ (ancsFrom acc r).getD j [], k < j := by
    intro r
    induction r with
    | nil => intro acc _ h; exact h
    | cons x r ih =>
      intro acc hr hacc
      refine ih (acc ++ [(gatherA acc (dirOf x)).eraseDups]) (fun q => ?_) (fun j k hk => ?_)
      · rw [List.length_append, List.length_singleton, Nat.add_assoc, Nat.add_comm 1 q]; exact hr (q + 1)
      · rw [List.getD_eq_getElem?_getD] at hk
        by_cases hlt : j < acc.length
        · rw [List.getElem?_append_left hlt, ← List.getD_eq_getElem?_getD] at hk
          exact hacc j k hk
        · rw [List.getElem?_append_right (by omega)] at hk
          by_cases he : j = acc.length
          · subst he
            rw [Nat.sub_self] at hk
            have hk' : k ∈ gatherA acc (dirOf x) := List.mem_eraseDups.1 hk
            have hx : l[acc.length]? = some x := by have := hr 0; simpa using this.symm
            have hd := (steadyOk_at hok hx).2.1
            generalize dirOf x = ks at *
            clear hk
            induction ks with
            | nil => cases hk'
            | cons q ks ihk =>
              rcases List.mem_cons.1 hk' with rfl | h
              · exact hd _ (List.mem_cons_self ..)
              rcases List.mem_append.1 h with h | h
              · have h1 := hacc q k h
                have h2 := hd q (List.mem_cons_self ..)
                omega
              · exact ihk h fun p hp => hd p (List.mem_cons_of_mem _ hp)
          · obtain ⟨m, hm⟩ : ∃ m, j - acc.length = m + 1 := ⟨j - acc.length - 1, by omega⟩
            rw [hm] at hk
            simp at hk
  exact hgen l [] (fun q => by simp) (fun j k hk => by simp at hk) i k hk

section
variable {P : Program} {ops : Array Oper} {S : World → Prop}
theorem stateAt_size : ∀ (l : List Oper) (V : List Value) (a : Act) (i : Nat), (stateAt l V a i).tmps.size = a.tmps.size ∧ (stateAt l V a i).defers = a.defers
  | o :: l, v :: V, a, i + 1 => by
    obtain ⟨h1, h2⟩ := stateAt_size l V (a.put o.dst v) i
    rw [stateAt, h1, h2]
    cases o.dst <;> simp [Act.put]
  | [], V, a, i => by unfold stateAt; exact ⟨rfl, rfl⟩
  | o :: l, [], a, i => by unfold stateAt; exact ⟨rfl, rfl⟩
  | o :: l, v :: V, a, 0 => ⟨rfl, rfl⟩
theorem put_other {a : Act} {d : Option Tmp} {v : Value} {t : Nat} (h : d ≠ some t) : (a.put d v).tmps[t]? = a.tmps[t]? := by
  cases d with
  | none => rfl
  | some d => simp only [Act.put]; rw [Array.getElem?_setIfInBounds_ne (fun e => h (by rw [e]))]
theorem put_own {a : Act} {v : Value} {t : Nat} : (a.put (some t) v).tmps[t]? = if t < a.tmps.size then some v else none := by
  simp only [Act.put]
  rw [Array.getElem?_setIfInBounds_self]
theorem stateAt_other : ∀ (l : List Oper) (V : List Value) (a : Act) (i t : Nat), (∀ j o, j < i → l[j]? = some o → o.dst ≠ some t) → (stateAt l V a i).tmps[t]? = a.tmps[t]?
  | o :: l, v :: V, a, i + 1, t, h => by
    rw [stateAt, stateAt_other l V _ i t (fun j x hj hx => h (j + 1) x (by omega) (by simpa using hx)), put_other (h 0 o (by omega) rfl)]
  | [], V, a, i, t, h => by unfold stateAt; rfl
  | o :: l, [], a, i, t, h => by unfold stateAt; rfl
  | o :: l, v :: V, a, 0, t, h => rfl
theorem stateAt_own : ∀ (l : List Oper) (V : List Value) (a : Act) (i j t : Nat) (x : Oper) (v : Value), j < i → l[j]? = some x → V[j]? = some v → x.dst = some t →
    (∀ k o, k ≠ j → l[k]? = some o → o.dst ≠ some t) → (stateAt l V a i).tmps[t]? = if t < a.tmps.size then some v else none
  | o :: l, u :: V, a, i + 1, 0, t, x, v, hj, hx, hv, hd, hu => by
    simp only [List.getElem?_cons_zero, Option.some.injEq] at hx hv
    subst hx hv
    rw [stateAt, stateAt_other l V _ i t (fun j y _ hy => hu (j + 1) y (by omega) (by simpa using hy)), hd, put_own]
  | o :: l, u :: V, a, i + 1, j + 1, t, x, v, hj, hx, hv, hd, hu => by
    have h1 := stateAt_own l V (a.put o.dst u) i j t x v (by omega) (by simpa using hx) (by simpa using hv) hd (fun k y hk hy => hu (k + 1) y (by omega) (by simpa using hy))
    rw [stateAt, h1]
    have : (a.put o.dst u).tmps.size = a.tmps.size := by cases o.dst <;> simp [Act.put]
    rw [this]
  | [], V, a, i, j, t, x, v, hj, hx, hv, hd, hu => by simp at hx
  | o :: l, [], a, i, j, t, x, v, hj, hx, hv, hd, hu => by simp at hv
  | o :: l, u :: V, a, 0, j, t, x, v, hj, hx, hv, hd, hu => by omega
theorem putAll_eq : ∀ (l : List Oper) (V : List Value) (a : Act), putAll l V a = stateAt l V a l.length
  | o :: l, v :: V, a => by rw [putAll, List.length_cons, stateAt, putAll_eq l V]
  | [], V, a => by unfold putAll stateAt; rfl
  | o :: l, [], a => by unfold putAll stateAt; rfl
theorem StepsF.at {F : Nat → World → Prop} : ∀ {l : List Oper} {k : Nat} {V : List Value} {a : Act}, StepsF P ops S F k l V a → ∀ i o, l[i]? = some o → ∃ v, V[i]? = some v ∧ ∀ W, S W → StepT P ops (After S F (k + i) W) (stateAt l V a i) o v W
  | x :: l, k, v :: V, a, h, 0, o, hi => by
    simp only [List.getElem?_cons_zero, Option.some.injEq] at hi
    subst hi
    exact ⟨v, rfl, h.1⟩
  | x :: l, k, v :: V, a, h, i + 1, o, hi => by
    obtain ⟨u, h1, h2⟩ := StepsF.at h.2 i o (by simpa using hi)
    refine ⟨u, by simpa using h1, fun W hW => ?_⟩
    rw [show k + (i + 1) = k + 1 + i by omega]
    exact h2 W hW
  | [], k, V, a, h, i, o, hi => by simp at hi
  | x :: l, k, [], a, h, i, o, hi => h.elim
theorem StepT.mono {S' : World → Prop} {a : Act} {o : Oper} {v : Value} {W : World} (h : StepT P ops S a o v W) (hs : ∀ W, S W → S' W) : StepT P ops S' a o v W := by
  unfold StepT at h ⊢
  split
  · rename_i hw
    rw [if_pos hw] at h
    generalize (execOp a.eval o).run P W = r at *
    cases r with
    | ok n w' =>
      cases n with
      | value u => exact ⟨h.1, hs _ h.2⟩
      | skip => exact ⟨h.1, hs _ h.2⟩
      | enter f args => exact Calls.mono h fun e w'' he => ⟨he.1, hs _ he.2⟩
      | _ => exact h.elim
    | halt x w' => exact h.elim
  · rename_i hw
    rw [if_neg hw] at h
    exact ⟨h.1, hs _ h.2⟩
theorem StepsT.steps : ∀ {l : List Oper} {k : Nat} {V : List Value} {a : Act}, StepsT P ops S l V a → StepsF P ops S (fun _ _ => True) k l V a
  | _ :: _, _, _ :: _, _, h => ⟨fun W hW => (h.1 W hW).mono fun _ h' => ⟨h', trivial, fun _ _ => trivial⟩, StepsT.steps h.2⟩
  | [], _, [], _, _ => trivial
  | [], _, _ :: _, _, h => h.elim
  | _ :: _, _, [], _, h => h.elim
/-- Any order: by an invariant. -/
theorem wpAny_inv {Q : Exit → Act → World → Prop} (J : Array Bool → Act → World → Prop) (hsz : ∀ L a W, J L a W → L.size = ops.size)
    (hstep : ∀ L a W i, J L a W → i ∈ Region.ready .any ops L → wpOp P ops Q i (J (L.setIfInBounds i true)) a W)
    (hdone : ∀ L a W, J L a W → Region.ready .any ops L = [] → Q .normal a W) : ∀ fuel L a W, J L a W → L.toList.count false ≤ fuel → wpAny P .any ops Q fuel L a W
  | 0, L, a, W, hJ, hc => by
    have hr : Region.ready .any ops L = [] := by
      rw [List.eq_nil_iff_forall_not_mem]
      intro i hi
      unfold Region.ready at hi
      simp only [List.mem_filter, List.mem_range, Bool.and_eq_true, Bool.not_eq_true'] at hi
      have h0 : L.toList.count false = 0 := by omega
      rw [List.count_eq_zero] at h0
      have hlt : i < L.size := by rw [hsz L a W hJ]; exact hi.1
      have h2 := hi.2.1
      rw [Array.getD_eq_getD_getElem?, Array.getElem?_eq_getElem hlt, Option.getD_some] at h2
      exact h0 (by rw [← h2]; simp)
    exact ⟨hr, hdone L a W hJ hr⟩
  | fuel + 1, L, a, W, hJ, hc => by
    refine ⟨fun hr => hdone L a W hJ hr, fun i hi => ?_⟩
    refine wpOp_mono (fun a' W' hJ' => wpAny_inv J hsz hstep hdone fuel _ a' W' hJ' ?_) (hstep L a W i hJ hi)
    unfold Region.ready at hi
    simp only [List.mem_filter, List.mem_range, Bool.and_eq_true, Bool.not_eq_true'] at hi
    have hlt : i < L.size := by rw [hsz L a W hJ]; exact hi.1
    have h2 := hi.2.1
    rw [Array.getD_eq_getD_getElem?, Array.getElem?_eq_getElem hlt, Option.getD_some] at h2
    have hmem : 0 < L.toList.count false := by
      rw [List.count_pos_iff]
      rw [← h2]; simp
    rw [Array.toList_setIfInBounds, List.count_set (by simpa using hlt)]
    have h3 : L.toList[i]'(by simpa using hlt) = false := by simpa using h2
    rw [h3, if_pos (by rfl), if_neg (by decide)]
    omega
end
/-- What holds when the operations of L are done. -/
structure SteadyJ (l : List Oper) (V : List Value) (a0 : Act) (S : World → Prop) (F : Nat → World → Prop) (L : Array Bool) (a : Act) (W : World) : Prop where
  size : L.size = l.length
  shut : ShutD l (fun i => L.getD i true = true)
  st : S W
  eff : ∀ j, j < l.length → L.getD j true = true → F j W
  defers : a.defers = a0.defers
  tsize : a.tmps.size = a0.tmps.size
  old : ∀ t, (∀ j o, l[j]? = some o → o.dst = some t → L.getD j true = false) → a.tmps[t]? = a0.tmps[t]?
  done : ∀ j o v t, l[j]? = some o → V[j]? = some v → o.dst = some t → L.getD j true = true → a.tmps[t]? = if t < a0.tmps.size then some v else none
theorem getD_set_self {L : Array Bool} {i : Nat} : (L.setIfInBounds i true).getD i true = true := by
  rw [Array.getD_eq_getD_getElem?, Array.getElem?_setIfInBounds_self]
  split <;> rfl
theorem getD_set_other {L : Array Bool} {i j : Nat} (h : j ≠ i) : (L.setIfInBounds i true).getD j true = L.getD j true := by
  rw [Array.getD_eq_getD_getElem?, Array.getD_eq_getD_getElem?, Array.getElem?_setIfInBounds_ne (fun e => h e.symm)]
section
variable {P : Program} {S : World → Prop} {F : Nat → World → Prop} {l : List Oper} {V : List Value} {a0 : Act} {L : Array Bool} {a : Act} {W : World}
theorem steady_unique (hok : steadyOk l = true) {i j : Nat} {o x : Oper} {t : Nat} (hi : l[i]? = some o) (hj : l[j]? = some x) (ho : o.dst = some t) (hx : x.dst = some t) : i = j := by
  have h := (steadyOk_at hok hi).2.2 j x hj
  unfold steadyAt at h
  rw [hx] at h
  simp only [Bool.or_eq_true, beq_iff_eq, Bool.and_eq_true, bne_iff_ne, ne_eq, ho, not_true_eq_false, false_and, or_false] at h
  exact h
/-- What an operation looks at reads as in the order of the text. -/
theorem SteadyJ.looks (hok : steadyOk l = true) (hlen : V.length = l.length) (h : SteadyJ l V a0 S F L a W) {i : Nat} {o : Oper} (hi : l[i]? = some o) (hun : L.getD i true = false) (hrdy : ∀ k ∈ dirOf o, L.getD k true = true)
    (t : Nat) (ht : t ∈ o.looksAt l.toArray) : a.tmps[t]? = (stateAt l V a0 i).tmps[t]? := by
  obtain ⟨_, hlt, hat⟩ := steadyOk_at hok hi
  have hanc : ∀ k ∈ (ancsFrom [] l).getD i [], L.getD k true = true := fun k hk => by
    refine ancs_mem (L := fun q => L.getD q true = true ∨ q = i) (fun q y hq hy p hp => ?_) (.inr rfl) hk |>.elim id (fun e => ?_)
    · rcases hy with hy | rfl
      · exact .inl (h.shut q y hq hy p hp)
      · rw [hi] at hq; cases hq; exact .inl (hrdy p hp)
    · -- an ancestor is no operation of its own
      subst e
      exact absurd (ancs_lt hok hi hk) (Nat.lt_irrefl _)
  by_cases hex : ∃ (j : Nat) (x : Oper), l[j]? = some x ∧ x.dst = some t
  · obtain ⟨j, x, hj, hx⟩ := hex
    by_cases hji : j = i
    · subst hji
      rw [h.old t fun q y hq hy => by rw [steady_unique hok hq hj hy hx]; exact hun]
      rw [stateAt_other l V a0 j t fun q y hqj hq hy => by have := steady_unique hok hq hj hy hx; omega]
    · have hs := hat j x hj
      unfold steadyAt at hs
      rw [hx] at hs
      simp only [Bool.or_eq_true, beq_iff_eq, Bool.and_eq_true, Bool.not_eq_true', decide_eq_true_eq, List.contains_iff_mem] at hs
      rcases hs with hs | ⟨_, (hs | ⟨hs, hs2⟩) | ⟨hs, hs2⟩⟩
      · omega
      · rw [← Bool.not_eq_true, List.contains_iff_mem] at hs; exact absurd ht hs
      · obtain ⟨v, hv⟩ : ∃ v, V[j]? = some v := ⟨V[j]'(by rw [hlen]; exact (List.getElem?_eq_some_iff.1 hj).1), List.getElem?_eq_getElem _⟩
        rw [h.done j x v t hj hv hx (hanc j hs2), stateAt_own l V a0 i j t x v hs hj hv hx fun q y hq hy hd => hq (steady_unique hok hy hj hd hx)]
      · have hju : L.getD j true = false := by
          rw [← Bool.not_eq_true]
          intro hjt
          have := ancs_mem (L := fun q => L.getD q true = true) h.shut hjt hs2
          rw [hun] at this
          cases this
        rw [h.old t fun q y hq hy => by rw [steady_unique hok hq hj hy hx]; exact hju]
        rw [stateAt_other l V a0 i t fun q y hqj hq hy => by have := steady_unique hok hq hj hy hx; omega]
  · have hno : ∀ (j : Nat) (x : Oper), l[j]? = some x → x.dst ≠ some t := fun j x hj hx => hex ⟨j, x, hj, hx⟩
    rw [h.old t fun q y hq hy => absurd hy (hno q y hq), stateAt_other l V a0 i t fun q y _ hq => hno q y hq]
theorem SteadyJ.put (hok : steadyOk l = true) (h : SteadyJ l V a0 S F L a W) {i : Nat} {o : Oper} {v : Value} {W' : World} (hi : l[i]? = some o) (hv : V[i]? = some v) (hun : L.getD i true = false) (hrdy : ∀ k ∈ dirOf o, L.getD k true = true) (hS : After S F i W W') :
    SteadyJ l V a0 S F (L.setIfInBounds i true) (a.put o.dst v) W' := by
  refine ⟨by rw [Array.size_setIfInBounds]; exact h.size, fun q y hq hy k hk => ?_, hS.1, fun j hj hL => ?_, ?_, ?_, fun t ht => ?_, fun j x u t hj hu hx hL => ?_⟩
  · show (L.setIfInBounds i true).getD k true = true
    by_cases hki : k = i
    · subst hki; exact getD_set_self
    · rw [getD_set_other hki]
      by_cases hqi : q = i
      · subst hqi; rw [hi] at hq; cases hq; exact hrdy k hk
      · simp only [getD_set_other hqi] at hy
        exact h.shut q y hq hy k hk
  · by_cases hji : j = i
    · subst hji; exact hS.2.1
    · rw [getD_set_other hji] at hL
      exact hS.2.2 j (h.eff j hj hL)
  · rw [← h.defers]; cases o.dst <;> rfl
  · rw [← h.tsize]; cases o.dst <;> simp [Act.put]
  · rw [put_other (fun e => by have := ht i o hi e; rw [getD_set_self] at this; cases this)]
    refine h.old t fun j x hj hx => ?_
    by_cases hji : j = i
    · subst hji; exact hun
    · have := ht j x hj hx
      rwa [getD_set_other hji] at this
  · by_cases hji : j = i
    · subst hji
      rw [hi] at hj; cases hj
      rw [hv] at hu; cases hu
      rw [hx, put_own, h.tsize]
    · rw [put_other (fun e => hji (steady_unique hok hj hi hx e))]
      rw [getD_set_other hji] at hL
      exact h.done j x u t hj hu hx hL
theorem StepT.wpOp {ops : Array Oper} {Q : Exit → Act → World → Prop} {aT : Act} {i : Nat} {o : Oper} {v : Value} {K : Act → World → Prop} (hi : ops[i]? = some o) (h : StepT P ops S aT o v W) (he : execOp a.eval o = execOp aT.eval o)
    (hw : Region.wanted o (yielded ops a.tmps) = Region.wanted o (yielded ops aT.tmps)) (hK : ∀ W', S W' → K (a.put o.dst v) W') : Go.wpOp P ops Q i K a W := by
  unfold Go.wpOp
  simp only [hi]
  unfold StepT at h
  rw [← hw] at h
  split
  · rename_i hwt
    rw [if_pos hwt] at h
    refine .inl ?_
    unfold Oper.wp
    rw [he]
    generalize (execOp aT.eval o).run P W = r at *
    cases r with
    | ok n w' =>
      cases n with
      | value u => obtain ⟨rfl, hS'⟩ := h; exact hK _ hS'
      | skip => obtain ⟨rfl, hS'⟩ := h; exact hK _ hS'
      | enter f args =>
        refine Calls.mono h fun e w'' he => ?_
        obtain ⟨rfl, hS'⟩ := he
        exact hK _ hS'
      | _ => exact h.elim
    | halt x w' => exact h.elim
  · rename_i hwf
    rw [if_neg hwf] at h
    obtain ⟨rfl, hS⟩ := h
    exact hK _ hS
section
variable {ops : Array Oper} {o : Oper} {v : Value}
theorem StepT.off (hw : Region.wanted o (yielded ops a.tmps) = false) (hS : S W) (hv : undef = v) : StepT P ops S a o v W := by
  unfold StepT; rw [if_neg (by rw [hw]; decide)]; exact ⟨hv.symm, hS⟩
/-- What is left of an operation that has run. -/
abbrev StepR (P : Program) (S : World → Prop) (v : Value) (r : Result Next) : Prop :=
  match r with
  | .ok (.value u) W' => u = v ∧ S W'
  | .ok .skip W' => undef = v ∧ S W'
  | .ok (.enter f args) W' => Calls P f args W' (fun e W'' => e = .returned v ∧ S W'')
  | _ => False
theorem StepT.go (hw : Region.wanted o (yielded ops a.tmps) = true) (h : StepR P S v ((execOp a.eval o).run P W)) : StepT P ops S a o v W := by
  unfold StepT; rw [if_pos hw]; exact h
theorem StepsT.cons {l : List Oper} {V : List Value} (h : ∀ W, S W → StepT P ops S a o v W) (k : StepsT P ops S l V (a.put o.dst v)) : StepsT P ops S (o :: l) (v :: V) a := ⟨h, k⟩
end
/-- **A region whose operations keep S, carried out in the order of the text, is carried out**; F i: what operation i leaves behind. -/
theorem wp_region_steadyF {id : Nat} {w : World} {Q : Exit → Act → World → Prop} (S : World → Prop) (F : Nat → World → Prop) (V : List Value) (hm : P.follows .mixedOrders = true) (hok : steadyOk l = true) (hlen : V.length = l.length)
    (hS : S { w with drawn := w.drawn + 1 }) (hsteps : StepsF P l.toArray S F 0 l V a0) (hQ : ∀ W, S W → (∀ j, j < l.length → F j W) → Q .normal (putAll l V a0) W) : (Code.region id l.toArray true).wp P Q a0 w := by
  refine wp_region_any hm ?_
  refine wpAny_inv (SteadyJ l V a0 S F) (fun L a W h => by rw [h.size]; simp) (fun L a W i h hi => ?_) (fun L a W h hr => ?_) _ _ _ _
    ⟨by simp, fun i o hi hL => ?_, hS, fun j hj hL => ?_, rfl, rfl, fun t _ => rfl, fun j o v t hj _ _ hL => ?_⟩ ?_
  · unfold Region.ready at hi
    simp only [List.mem_filter, List.mem_range, Bool.and_eq_true, Bool.not_eq_true'] at hi
    obtain ⟨hlt, hun, hrd⟩ := hi
    have hil : i < l.length := by simpa using hlt
    obtain ⟨o, ho⟩ : ∃ o, l[i]? = some o := ⟨_, List.getElem?_eq_getElem hil⟩
    have hoa : l.toArray[i]? = some o := by simpa using ho
    rw [hoa] at hrd
    simp only [Option.map_some, Option.getD_some, Array.all_eq_true'] at hrd
    have hrdy : ∀ k ∈ dirOf o, L.getD k true = true := fun k hk => by
      unfold dirOf at hk
      obtain ⟨e, he, rfl⟩ := List.mem_map.1 hk
      obtain ⟨he1, he2⟩ := List.mem_filter.1 he
      have h1 := hrd e (by simpa using he1)
      rw [he2] at h1
      simp only [Bool.not_true, Bool.false_or] at h1
      have hk2 := (steadyOk_at hok ho).2.1 e.on hk
      rw [Array.getD_eq_getD_getElem?] at h1 ⊢
      rw [Array.getElem?_eq_getElem (by rw [h.size]; omega)] at h1 ⊢
      exact h1
    obtain ⟨v, hv, hst⟩ := hsteps.at i o ho
    have hlook := h.looks hok hlen ho hun hrdy
    rw [Nat.zero_add] at hst
    refine StepT.wpOp hoa (hst W h.st) ?_ ?_ (fun W' hS' => h.put hok ho hv hun hrdy hS')
    · refine execOp_congr o (fun cs b e => ?_) (fun x hx => ?_)
      · have := (steadyOk_at hok ho).1
        rw [e] at this
        cases this
      · cases x with
        | tmp t =>
          have := hlook t (by unfold Oper.looksAt; exact List.mem_append_left _ (List.mem_filterMap.2 ⟨.tmp t, by simpa using hx, rfl⟩))
          show a.tmps.getD t undef = (stateAt l V a0 i).tmps.getD t undef
          rw [Array.getD_eq_getD_getElem?, Array.getD_eq_getD_getElem?, this]
        | _ => rfl
    · unfold Region.wanted
      cases hg : o.guard with
      | none => rfl
      | some gw =>
        obtain ⟨q, want⟩ := gw
        have hy : yielded l.toArray a.tmps q = yielded l.toArray (stateAt l V a0 i).tmps q := by
          unfold yielded
          cases ht : (l.toArray[q]?).bind (·.dst) with
          | none => rfl
          | some t =>
            have := hlook t (by unfold Oper.looksAt; refine List.mem_append_right _ ?_; rw [hg]; simp only [ht]; simp)
            simp only [Option.bind_some, this]
        simp only [hy]
  · -- all are done
    have hall : ∀ i, i < l.length → L.getD i true = true := by
      intro i
      induction i using Nat.strongRecOn with
      | _ i ih =>
        intro hil
        rw [← Bool.not_eq_false]
        intro hun
        obtain ⟨o, ho⟩ : ∃ o, l[i]? = some o := ⟨_, List.getElem?_eq_getElem hil⟩
        have hoa : l.toArray[i]? = some o := by simpa using ho
        have hmem : i ∈ Region.ready .any l.toArray L := by
          unfold Region.ready
          simp only [List.mem_filter, List.mem_range, Bool.and_eq_true, Bool.not_eq_true']
          refine ⟨by simpa using hil, hun, ?_⟩
          rw [hoa]
          simp only [Option.map_some, Option.getD_some, Array.all_eq_true']
          intro e he
          by_cases hb : Region.binds .any e = true
          · have hk : e.on ∈ dirOf o := List.mem_map.2 ⟨e, List.mem_filter.2 ⟨by simpa using he, hb⟩, rfl⟩
            have hlt := (steadyOk_at hok ho).2.1 e.on hk
            have h1 := ih e.on hlt (by omega)
            rw [Array.getD_eq_getD_getElem?, Array.getElem?_eq_getElem (by rw [h.size]; omega)] at h1 ⊢
            rw [hb]
            simpa using h1
          · rw [Bool.not_eq_true] at hb; rw [hb]; rfl
        rw [hr] at hmem
        cases hmem
    have ha : a = putAll l V a0 := by
      rw [putAll_eq]
      obtain ⟨hz, hd⟩ := stateAt_size l V a0 l.length
      have ht : a.tmps = (stateAt l V a0 l.length).tmps := by
        apply Array.ext_getElem?
        intro t
        by_cases hex : ∃ (j : Nat) (x : Oper), l[j]? = some x ∧ x.dst = some t
        · obtain ⟨j, x, hj, hx⟩ := hex
          have hjl := (List.getElem?_eq_some_iff.1 hj).1
          obtain ⟨v, hv⟩ : ∃ v, V[j]? = some v := ⟨V[j]'(by rw [hlen]; exact hjl), List.getElem?_eq_getElem _⟩
          rw [h.done j x v t hj hv hx (hall j hjl), stateAt_own l V a0 l.length j t x v hjl hj hv hx fun q y hq hy hdy => hq (steady_unique hok hy hj hdy hx)]
        · rw [h.old t fun q y hq hy => absurd ⟨q, y, hq, hy⟩ hex, stateAt_other l V a0 l.length t fun q y _ hq hy => hex ⟨q, y, hq, hy⟩]
      obtain ⟨at_, ad⟩ := a
      have hdef := h.defers
      simp only at ht hdef
      rw [ht, hdef, ← hd]
    rw [ha]
    exact hQ W h.st fun j hj => h.eff j hj (hall j hj)
  · have hlt := (List.getElem?_eq_some_iff.1 hi).1
    replace hL : (Array.replicate l.toArray.size false).getD i true = true := hL
    rw [Array.getD_eq_getD_getElem?, Array.getElem?_eq_getElem (by simpa using hlt)] at hL
    simp at hL
  · rw [Array.getD_eq_getD_getElem?, Array.getElem?_eq_getElem (by simpa using hj)] at hL
    simp at hL
  · have hlt := (List.getElem?_eq_some_iff.1 hj).1
    rw [Array.getD_eq_getD_getElem?, Array.getElem?_eq_getElem (by simpa using hlt)] at hL
    simp at hL
  · exact Nat.le_trans (List.count_le_length) (by simp)
theorem wp_region_steady {id : Nat} {w : World} {Q : Exit → Act → World → Prop} (S : World → Prop) (V : List Value) (hm : P.follows .mixedOrders = true) (hok : steadyOk l = true) (hlen : V.length = l.length)
    (hS : S { w with drawn := w.drawn + 1 }) (hsteps : StepsT P l.toArray S l V a0) (hQ : ∀ W, S W → Q .normal (putAll l V a0) W) : (Code.region id l.toArray true).wp P Q a0 w :=
  wp_region_steadyF S (fun _ _ => True) V hm hok hlen hS hsteps.steps fun W h _ => hQ W h
end
end Go.Proofs.YtccdnieoaejgdaaGreatDoor
