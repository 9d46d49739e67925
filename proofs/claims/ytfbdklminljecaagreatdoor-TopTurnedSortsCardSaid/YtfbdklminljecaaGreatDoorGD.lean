/-
  A region whose operations keep to a condition on the world: what it does in the order of the text it does in every order that its edges allow.
  A region whose operations make memory: its values are not known ahead; a condition on values and world is kept by each operation.
  Chapter 5: the roman figures as they lie in memory.
  Walk: chapter 5: Folio.
-/
import Derived.OrdersHeld
import Derived.Deep.MidRow
import Derived.WalkKit
import Derived.Test.YtfbdklminljecaaGreatDoorGA
import Derived.Test.YtfbdklminljecaaGreatDoorGC
import Derived.Lib.ItoaNum
import Derived.Lib.Repeat
import Derived.Deep.CutBlock
import Derived.Deep.RegionHeld3
import Derived.Deep.DrawnRows
namespace Go.Proofs.YtfbdklminljecaaGreatDoor
open Go.RowKit

/-- What an operation does at a written-out state: it yields v, and S stands. -/
def StepT (P : Program) (ops : Array Oper) (S : World → Prop) (a : Act) (o : Oper) (v : Value) (W : World) : Prop :=
  if Region.wanted o (yielded ops a.tmps) = true then
    match (execOp a.eval o).run P W with
    | .ok (.value u) W' => u = v ∧ S W'
    | .ok .skip W' => undef = v ∧ S W'
    | .ok (.enter f args) W' => Calls P f args W' (fun e W'' => e = .returned v ∧ S W'')
    | _ => False
  else v = undef ∧ S W
/-- What an operation leaves: S stands, its own effect is there, and so are the effects of those before. -/
def After (S : World → Prop) (F : Nat → World → Prop) (i : Nat) (W W' : World) : Prop := S W' ∧ F i W' ∧ ∀ j, F j W → F j W'
def StepsF (P : Program) (ops : Array Oper) (S : World → Prop) (F : Nat → World → Prop) : Nat → List Oper → List Value → Act → Prop
  | i, o :: l, v :: V, a => (∀ W, S W → StepT P ops (After S F i W) a o v W) ∧ StepsF P ops S F (i + 1) l V (a.put o.dst v)
  | _, [], [], _ => True
  | _, _, _, _ => False
def StepsT (P : Program) (ops : Array Oper) (S : World → Prop) : List Oper → List Value → Act → Prop
  | o :: l, v :: V, a => (∀ W, S W → StepT P ops S a o v W) ∧ StepsT P ops S l V (a.put o.dst v)
  | [], [], _ => True
  | _, _, _ => False
/-- The state behind all operations. -/
def putAll : List Oper → List Value → Act → Act
  | o :: l, v :: V, a => putAll l V (a.put o.dst v)
  | _, _, a => a
/-- The state ahead of operation i, in the order of the text. -/
def stateAt : List Oper → List Value → Act → Nat → Act
  | o :: l, v :: V, a, i + 1 => stateAt l V (a.put o.dst v) i
  | _, _, a, _ => a
def dirOf (o : Oper) : List Nat := (o.after.toList.filter (Region.binds .any)).map (·.on)
def gatherA (acc : List (List Nat)) : List Nat → List Nat
  | [] => []
  | k :: ks => k :: (acc.getD k [] ++ gatherA acc ks)
def ancsFrom : List (List Nat) → List Oper → List (List Nat)
  | acc, [] => acc
  | acc, o :: l => ancsFrom (acc ++ [(gatherA acc (dirOf o)).eraseDups]) l
def isSel : Op → Bool
  | .select _ _ => true
  | _ => false
def steadyAt (l : List Oper) (A : List (List Nat)) (i : Nat) (o : Oper) (j : Nat) (x : Oper) : Bool :=
  i == j || match x.dst with
    | none => true
    | some d => o.dst != some d && (!(o.looksAt l.toArray).contains d || (decide (j < i) && (A.getD i []).contains j) || (decide (i < j) && (A.getD j []).contains i))
def steadyOk (l : List Oper) : Bool :=
  l.zipIdx.all fun (o, i) => !isSel o.op && (dirOf o).all (fun k => decide (k < i)) && l.zipIdx.all fun (x, j) => steadyAt l (ancsFrom [] l) i o j x
theorem steadyOk_at {l : List Oper} (h : steadyOk l = true) {i : Nat} {o : Oper} (hi : l[i]? = some o) :
    isSel o.op = false ∧ (∀ k ∈ dirOf o, k < i) ∧ ∀ j x, l[j]? = some x → steadyAt l (ancsFrom [] l) i o j x = true := by
  unfold steadyOk at h
  have h1 := List.all_eq_true.1 h (o, i) (by rw [List.mem_zipIdx_iff_getElem?]; exact hi)
  simp only [Bool.and_eq_true, Bool.not_eq_true', List.all_eq_true, decide_eq_true_eq] at h1
  obtain ⟨⟨h2, h3⟩, h4⟩ := h1
  exact ⟨h2, h3, fun j x hj => h4 (x, j) (by rw [List.mem_zipIdx_iff_getElem?]; exact hj)⟩
/-- A set of operations that holds, with each, those that it waits for. -/
def ShutD (l : List Oper) (L : Nat → Prop) : Prop := ∀ (i : Nat) (o : Oper), l[i]? = some o → L i → ∀ k ∈ dirOf o, L k
theorem gatherA_mem {acc : List (List Nat)} {L : Nat → Prop} (hacc : ∀ j, L j → ∀ i ∈ acc.getD j [], L i) : ∀ (ks : List Nat), (∀ k ∈ ks, L k) → ∀ i ∈ gatherA acc ks, L i
  | [], _, i, hi => by cases hi
  | k :: ks, hk, i, hi => by
    rcases List.mem_cons.1 hi with rfl | hi
    · exact hk _ (List.mem_cons_self ..)
    rcases List.mem_append.1 hi with hi | hi
    · exact hacc k (hk k (List.mem_cons_self ..)) i hi
    · exact gatherA_mem hacc ks (fun q hq => hk q (List.mem_cons_of_mem _ hq)) i hi
theorem ancsFrom_mem {l : List Oper} {L : Nat → Prop} (hs : ShutD l L) : ∀ (r : List Oper) (acc : List (List Nat)), (∀ k, r[k]? = l[acc.length + k]?) → (∀ j, L j → ∀ i ∈ acc.getD j [], L i) → ∀ j, L j → ∀ i ∈ (ancsFrom acc r).getD j [], L i
  | [], acc, _, hacc => hacc
  | o :: r, acc, hr, hacc => by
    refine ancsFrom_mem hs r (acc ++ [(gatherA acc (dirOf o)).eraseDups]) (fun k => ?_) (fun j hj i hi => ?_)
    · rw [List.length_append, List.length_singleton, Nat.add_assoc, Nat.add_comm 1 k]; exact hr (k + 1)
    · rw [List.getD_eq_getElem?_getD] at hi
      by_cases hlt : j < acc.length
      · rw [List.getElem?_append_left hlt, ← List.getD_eq_getElem?_getD] at hi
        exact hacc j hj i hi
      · rw [List.getElem?_append_right (by omega)] at hi
        by_cases he : j = acc.length
        · subst he
          rw [Nat.sub_self] at hi
          have hi' : i ∈ gatherA acc (dirOf o) := List.mem_eraseDups.1 hi
          exact gatherA_mem hacc _ (fun k hk => hs acc.length o (by have := hr 0; simpa using this.symm) hj k hk) i hi'
        · obtain ⟨m, hm⟩ : ∃ m, j - acc.length = m + 1 := ⟨j - acc.length - 1, by omega⟩
          rw [hm] at hi
          simp at hi
theorem ancs_mem {l : List Oper} {L : Nat → Prop} (hs : ShutD l L) {j i : Nat} (hj : L j) (hi : i ∈ (ancsFrom [] l).getD j []) : L i :=
  ancsFrom_mem hs l [] (fun k => by simp) (fun j _ i h0 => by simp at h0) j hj i hi
/-- Whatever an operation waits for stands ahead of it. -/
theorem ancs_lt {l : List Oper} (hok : steadyOk l = true) {i k : Nat} {o : Oper} (_hi : l[i]? = some o) (hk : k ∈ (ancsFrom [] l).getD i []) : k < i := by
  have hgen : ∀ (r : List Oper) (acc : List (List Nat)), (∀ q, r[q]? = l[acc.length + q]?) → (∀ j, ∀ k ∈ acc.getD j [], k < j) → ∀ j, ∀ k ∈ (ancsFrom acc r).getD j [], k < j := by
    intro r
    induction r with
    | nil => intro acc _ h; exact h
    | cons x r ih =>
      intro acc hr hacc
      refine ih (acc ++ [(gatherA acc (dirOf x)).eraseDups]) (fun q => ?_) (fun j k hk => ?_)
      · rw [List.length_append, List.length_singleton, Nat.add_assoc, Nat.add_comm 1 q]; exact hr (q + 1)
      · rw [List.getD_eq_getElem?_getD] at hk
        by_cases hlt : j < acc.length
        · rw [List.getElem?_append_left hlt, ← List.getD_eq_getElem?_getD] at hk
          exact hacc j k hk
        · rw [List.getElem?_append_right (by omega)] at hk
          by_cases he : j = acc.length
          · subst he
            rw [Nat.sub_self] at hk
            have hk' : k ∈ gatherA acc (dirOf x) := List.mem_eraseDups.1 hk
            have hx : l[acc.length]? = some x := by have := hr 0; simpa using this.symm
            have hd := (steadyOk_at hok hx).2.1
            generalize dirOf x = ks at *
            clear hk
            induction ks with
            | nil => cases hk'
            | cons q ks ihk =>
              rcases List.mem_cons.1 hk' with rfl | h
              · exact hd _ (List.mem_cons_self ..)
              rcases List.mem_append.1 h with h | h
              · have h1 := hacc q k h
                have h2 := hd q (List.mem_cons_self ..)
                omega
              · exact ihk h fun p hp => hd p (List.mem_cons_of_mem _ hp)
          · obtain ⟨m, hm⟩ : ∃ m, j - acc.length = m + 1 := ⟨j - acc.length - 1, by omega⟩
            rw [hm] at hk
            simp at hk
  exact hgen l [] (fun q => by simp) (fun j k hk => by simp at hk) i k hk

section
variable {P : Program} {ops : Array Oper} {S : World → Prop}
theorem stateAt_size : ∀ (l : List Oper) (V : List Value) (a : Act) (i : Nat), (stateAt l V a i).tmps.size = a.tmps.size ∧ (stateAt l V a i).defers = a.defers
  | o :: l, v :: V, a, i + 1 => by
    obtain ⟨h1, h2⟩ := stateAt_size l V (a.put o.dst v) i
    rw [stateAt, h1, h2]
    cases o.dst <;> simp [Act.put]
  | [], V, a, i => by unfold stateAt; exact ⟨rfl, rfl⟩
  | o :: l, [], a, i => by unfold stateAt; exact ⟨rfl, rfl⟩
  | o :: l, v :: V, a, 0 => ⟨rfl, rfl⟩
theorem put_other {a : Act} {d : Option Tmp} {v : Value} {t : Nat} (h : d ≠ some t) : (a.put d v).tmps[t]? = a.tmps[t]? := by
  cases d with
  | none => rfl
  | some d => simp only [Act.put]; rw [Array.getElem?_setIfInBounds_ne (fun e => h (by rw [e]))]
theorem put_own {a : Act} {v : Value} {t : Nat} : (a.put (some t) v).tmps[t]? = if t < a.tmps.size then some v else none := by
  simp only [Act.put]
  rw [Array.getElem?_setIfInBounds_self]
theorem stateAt_other : ∀ (l : List Oper) (V : List Value) (a : Act) (i t : Nat), (∀ j o, j < i → l[j]? = some o → o.dst ≠ some t) → (stateAt l V a i).tmps[t]? = a.tmps[t]?
  | o :: l, v :: V, a, i + 1, t, h => by
    rw [stateAt, stateAt_other l V _ i t (fun j x hj hx => h (j + 1) x (by omega) (by simpa using hx)), put_other (h 0 o (by omega) rfl)]
  | [], V, a, i, t, h => by unfold stateAt; rfl
  | o :: l, [], a, i, t, h => by unfold stateAt; rfl
  | o :: l, v :: V, a, 0, t, h => rfl
theorem stateAt_own : ∀ (l : List Oper) (V : List Value) (a : Act) (i j t : Nat) (x : Oper) (v : Value), j < i → l[j]? = some x → V[j]? = some v → x.dst = some t →
    (∀ k o, k ≠ j → l[k]? = some o → o.dst ≠ some t) → (stateAt l V a i).tmps[t]? = if t < a.tmps.size then some v else none
  | o :: l, u :: V, a, i + 1, 0, t, x, v, hj, hx, hv, hd, hu => by
    simp only [List.getElem?_cons_zero, Option.some.injEq] at hx hv
    subst hx hv
    rw [stateAt, stateAt_other l V _ i t (fun j y _ hy => hu (j + 1) y (by omega) (by simpa using hy)), hd, put_own]
  | o :: l, u :: V, a, i + 1, j + 1, t, x, v, hj, hx, hv, hd, hu => by
    have h1 := stateAt_own l V (a.put o.dst u) i j t x v (by omega) (by simpa using hx) (by simpa using hv) hd (fun k y hk hy => hu (k + 1) y (by omega) (by simpa using hy))
    rw [stateAt, h1]
    have : (a.put o.dst u).tmps.size = a.tmps.size := by cases o.dst <;> simp [Act.put]
    rw [this]
  | [], V, a, i, j, t, x, v, hj, hx, hv, hd, hu => by simp at hx
  | o :: l, [], a, i, j, t, x, v, hj, hx, hv, hd, hu => by simp at hv
  | o :: l, u :: V, a, 0, j, t, x, v, hj, hx, hv, hd, hu => by omega
theorem putAll_eq : ∀ (l : List Oper) (V : List Value) (a : Act), putAll l V a = stateAt l V a l.length
  | o :: l, v :: V, a => by rw [putAll, List.length_cons, stateAt, putAll_eq l V]
  | [], V, a => by unfold putAll stateAt; rfl
  | o :: l, [], a => by unfold putAll stateAt; rfl
theorem StepsF.at {F : Nat → World → Prop} : ∀ {l : List Oper} {k : Nat} {V : List Value} {a : Act}, StepsF P ops S F k l V a → ∀ i o, l[i]? = some o → ∃ v, V[i]? = some v ∧ ∀ W, S W → StepT P ops (After S F (k + i) W) (stateAt l V a i) o v W
  | x :: l, k, v :: V, a, h, 0, o, hi => by
    simp only [List.getElem?_cons_zero, Option.some.injEq] at hi
    subst hi
    exact ⟨v, rfl, h.1⟩
  | x :: l, k, v :: V, a, h, i + 1, o, hi => by
    obtain ⟨u, h1, h2⟩ := StepsF.at h.2 i o (by simpa using hi)
    refine ⟨u, by simpa using h1, fun W hW => ?_⟩
    rw [show k + (i + 1) = k + 1 + i by omega]
    exact h2 W hW
  | [], k, V, a, h, i, o, hi => by simp at hi
  | x :: l, k, [], a, h, i, o, hi => h.elim
theorem StepT.mono {S' : World → Prop} {a : Act} {o : Oper} {v : Value} {W : World} (h : StepT P ops S a o v W) (hs : ∀ W, S W → S' W) : StepT P ops S' a o v W := by
  unfold StepT at h ⊢
  split
  · rename_i hw
    rw [if_pos hw] at h
    generalize (execOp a.eval o).run P W = r at *
    cases r with
    | ok n w' =>
      cases n with
      | value u => exact ⟨h.1, hs _ h.2⟩
      | skip => exact ⟨h.1, hs _ h.2⟩
      | enter f args => exact Calls.mono h fun e w'' he => ⟨he.1, hs _ he.2⟩
      | _ => exact h.elim
    | halt x w' => exact h.elim
  · rename_i hw
    rw [if_neg hw] at h
    exact ⟨h.1, hs _ h.2⟩
theorem StepsT.steps : ∀ {l : List Oper} {k : Nat} {V : List Value} {a : Act}, StepsT P ops S l V a → StepsF P ops S (fun _ _ => True) k l V a
  | _ :: _, _, _ :: _, _, h => ⟨fun W hW => (h.1 W hW).mono fun _ h' => ⟨h', trivial, fun _ _ => trivial⟩, StepsT.steps h.2⟩
  | [], _, [], _, _ => trivial
  | [], _, _ :: _, _, h => h.elim
  | _ :: _, _, [], _, h => h.elim
/-- Any order: by an invariant. -/
theorem wpAny_inv {Q : Exit → Act → World → Prop} (J : Array Bool → Act → World → Prop) (hsz : ∀ L a W, J L a W → L.size = ops.size)
    (hstep : ∀ L a W i, J L a W → i ∈ Region.ready .any ops L → wpOp P ops Q i (J (L.setIfInBounds i true)) a W)
    (hdone : ∀ L a W, J L a W → Region.ready .any ops L = [] → Q .normal a W) : ∀ fuel L a W, J L a W → L.toList.count false ≤ fuel → wpAny P .any ops Q fuel L a W
  | 0, L, a, W, hJ, hc => by
    have hr : Region.ready .any ops L = [] := by
      rw [List.eq_nil_iff_forall_not_mem]
      intro i hi
      unfold Region.ready at hi
      simp only [List.mem_filter, List.mem_range, Bool.and_eq_true, Bool.not_eq_true'] at hi
      have h0 : L.toList.count false = 0 := by omega
      rw [List.count_eq_zero] at h0
      have hlt : i < L.size := by rw [hsz L a W hJ]; exact hi.1
      have h2 := hi.2.1
      rw [Array.getD_eq_getD_getElem?, Array.getElem?_eq_getElem hlt, Option.getD_some] at h2
      exact h0 (by rw [← h2]; simp)
    exact ⟨hr, hdone L a W hJ hr⟩
  | fuel + 1, L, a, W, hJ, hc => by
    refine ⟨fun hr => hdone L a W hJ hr, fun i hi => ?_⟩
    refine wpOp_mono (fun a' W' hJ' => wpAny_inv J hsz hstep hdone fuel _ a' W' hJ' ?_) (hstep L a W i hJ hi)
    unfold Region.ready at hi
    simp only [List.mem_filter, List.mem_range, Bool.and_eq_true, Bool.not_eq_true'] at hi
    have hlt : i < L.size := by rw [hsz L a W hJ]; exact hi.1
    have h2 := hi.2.1
    rw [Array.getD_eq_getD_getElem?, Array.getElem?_eq_getElem hlt, Option.getD_some] at h2
    have hmem : 0 < L.toList.count false := by
      rw [List.count_pos_iff]
      rw [← h2]; simp
    rw [Array.toList_setIfInBounds, List.count_set (by simpa using hlt)]
    have h3 : L.toList[i]'(by simpa using hlt) = false := by simpa using h2
    rw [h3, if_pos (by rfl), if_neg (by decide)]
    omega
end
/-- What holds when the operations of L are done. -/
structure SteadyJ (l : List Oper) (V : List Value) (a0 : Act) (S : World → Prop) (F : Nat → World → Prop) (L : Array Bool) (a : Act) (W : World) : Prop where
  size : L.size = l.length
  shut : ShutD l (fun i => L.getD i true = true)
  st : S W
  eff : ∀ j, j < l.length → L.getD j true = true → F j W
  defers : a.defers = a0.defers
  tsize : a.tmps.size = a0.tmps.size
  old : ∀ t, (∀ j o, l[j]? = some o → o.dst = some t → L.getD j true = false) → a.tmps[t]? = a0.tmps[t]?
  done : ∀ j o v t, l[j]? = some o → V[j]? = some v → o.dst = some t → L.getD j true = true → a.tmps[t]? = if t < a0.tmps.size then some v else none
theorem getD_set_self {L : Array Bool} {i : Nat} : (L.setIfInBounds i true).getD i true = true := by
  rw [Array.getD_eq_getD_getElem?, Array.getElem?_setIfInBounds_self]
  split <;> rfl
theorem getD_set_other {L : Array Bool} {i j : Nat} (h : j ≠ i) : (L.setIfInBounds i true).getD j true = L.getD j true := by
  rw [Array.getD_eq_getD_getElem?, Array.getD_eq_getD_getElem?, Array.getElem?_setIfInBounds_ne (fun e => h e.symm)]
section
variable {P : Program} {S : World → Prop} {F : Nat → World → Prop} {l : List Oper} {V : List Value} {a0 : Act} {L : Array Bool} {a : Act} {W : World}
theorem steady_unique (hok : steadyOk l = true) {i j : Nat} {o x : Oper} {t : Nat} (hi : l[i]? = some o) (hj : l[j]? = some x) (ho : o.dst = some t) (hx : x.dst = some t) : i = j := by
  have h := (steadyOk_at hok hi).2.2 j x hj
  unfold steadyAt at h
  rw [hx] at h
  simp only [Bool.or_eq_true, beq_iff_eq, Bool.and_eq_true, bne_iff_ne, ne_eq, ho, not_true_eq_false, false_and, or_false] at h
  exact h
/-- What an operation looks at reads as in the order of the text. -/
theorem SteadyJ.looks (hok : steadyOk l = true) (hlen : V.length = l.length) (h : SteadyJ l V a0 S F L a W) {i : Nat} {o : Oper} (hi : l[i]? = some o) (hun : L.getD i true = false) (hrdy : ∀ k ∈ dirOf o, L.getD k true = true)
    (t : Nat) (ht : t ∈ o.looksAt l.toArray) : a.tmps[t]? = (stateAt l V a0 i).tmps[t]? := by
  obtain ⟨_, hlt, hat⟩ := steadyOk_at hok hi
  have hanc : ∀ k ∈ (ancsFrom [] l).getD i [], L.getD k true = true := fun k hk => by
    refine ancs_mem (L := fun q => L.getD q true = true ∨ q = i) (fun q y hq hy p hp => ?_) (.inr rfl) hk |>.elim id (fun e => ?_)
    · rcases hy with hy | rfl
      · exact .inl (h.shut q y hq hy p hp)
      · rw [hi] at hq; cases hq; exact .inl (hrdy p hp)
    · -- an ancestor is no operation of its own
      subst e
      exact absurd (ancs_lt hok hi hk) (Nat.lt_irrefl _)
  by_cases hex : ∃ (j : Nat) (x : Oper), l[j]? = some x ∧ x.dst = some t
  · obtain ⟨j, x, hj, hx⟩ := hex
    by_cases hji : j = i
    · subst hji
      rw [h.old t fun q y hq hy => by rw [steady_unique hok hq hj hy hx]; exact hun]
      rw [stateAt_other l V a0 j t fun q y hqj hq hy => by have := steady_unique hok hq hj hy hx; omega]
    · have hs := hat j x hj
      unfold steadyAt at hs
      rw [hx] at hs
      simp only [Bool.or_eq_true, beq_iff_eq, Bool.and_eq_true, Bool.not_eq_true', decide_eq_true_eq, List.contains_iff_mem] at hs
      rcases hs with hs | ⟨_, (hs | ⟨hs, hs2⟩) | ⟨hs, hs2⟩⟩
      · omega
      · rw [← Bool.not_eq_true, List.contains_iff_mem] at hs; exact absurd ht hs
      · obtain ⟨v, hv⟩ : ∃ v, V[j]? = some v := ⟨V[j]'(by rw [hlen]; exact (List.getElem?_eq_some_iff.1 hj).1), List.getElem?_eq_getElem _⟩
        rw [h.done j x v t hj hv hx (hanc j hs2), stateAt_own l V a0 i j t x v hs hj hv hx fun q y hq hy hd => hq (steady_unique hok hy hj hd hx)]
      · have hju : L.getD j true = false := by
          rw [← Bool.not_eq_true]
          intro hjt
          have := ancs_mem (L := fun q => L.getD q true = true) h.shut hjt hs2
          rw [hun] at this
          cases this
        rw [h.old t fun q y hq hy => by rw [steady_unique hok hq hj hy hx]; exact hju]
        rw [stateAt_other l V a0 i t fun q y hqj hq hy => by have := steady_unique hok hq hj hy hx; omega]
  · have hno : ∀ (j : Nat) (x : Oper), l[j]? = some x → x.dst ≠ some t := fun j x hj hx => hex ⟨j, x, hj, hx⟩
    rw [h.old t fun q y hq hy => absurd hy (hno q y hq), stateAt_other l V a0 i t fun q y _ hq => hno q y hq]
theorem SteadyJ.put (hok : steadyOk l = true) (h : SteadyJ l V a0 S F L a W) {i : Nat} {o : Oper} {v : Value} {W' : World} (hi : l[i]? = some o) (hv : V[i]? = some v) (hun : L.getD i true = false) (hrdy : ∀ k ∈ dirOf o, L.getD k true = true) (hS : After S F i W W') :
    SteadyJ l V a0 S F (L.setIfInBounds i true) (a.put o.dst v) W' := by
  refine ⟨by rw [Array.size_setIfInBounds]; exact h.size, fun q y hq hy k hk => ?_, hS.1, fun j hj hL => ?_, ?_, ?_, fun t ht => ?_, fun j x u t hj hu hx hL => ?_⟩
  · show (L.setIfInBounds i true).getD k true = true
    by_cases hki : k = i
    · subst hki; exact getD_set_self
    · rw [getD_set_other hki]
      by_cases hqi : q = i
      · subst hqi; rw [hi] at hq; cases hq; exact hrdy k hk
      · simp only [getD_set_other hqi] at hy
        exact h.shut q y hq hy k hk
  · by_cases hji : j = i
    · subst hji; exact hS.2.1
    · rw [getD_set_other hji] at hL
      exact hS.2.2 j (h.eff j hj hL)
  · rw [← h.defers]; cases o.dst <;> rfl
  · rw [← h.tsize]; cases o.dst <;> simp [Act.put]
  · rw [put_other (fun e => by have := ht i o hi e; rw [getD_set_self] at this; cases this)]
    refine h.old t fun j x hj hx => ?_
    by_cases hji : j = i
    · subst hji; exact hun
    · have := ht j x hj hx
      rwa [getD_set_other hji] at this
  · by_cases hji : j = i
    · subst hji
      rw [hi] at hj; cases hj
      rw [hv] at hu; cases hu
      rw [hx, put_own, h.tsize]
    · rw [put_other (fun e => hji (steady_unique hok hj hi hx e))]
      rw [getD_set_other hji] at hL
      exact h.done j x u t hj hu hx hL
theorem StepT.wpOp {ops : Array Oper} {Q : Exit → Act → World → Prop} {aT : Act} {i : Nat} {o : Oper} {v : Value} {K : Act → World → Prop} (hi : ops[i]? = some o) (h : StepT P ops S aT o v W) (he : execOp a.eval o = execOp aT.eval o)
    (hw : Region.wanted o (yielded ops a.tmps) = Region.wanted o (yielded ops aT.tmps)) (hK : ∀ W', S W' → K (a.put o.dst v) W') : Go.wpOp P ops Q i K a W := by
  unfold Go.wpOp
  simp only [hi]
  unfold StepT at h
  rw [← hw] at h
  split
  · rename_i hwt
    rw [if_pos hwt] at h
    refine .inl ?_
    unfold Oper.wp
    rw [he]
    generalize (execOp aT.eval o).run P W = r at *
    cases r with
    | ok n w' =>
      cases n with
      | value u => obtain ⟨rfl, hS'⟩ := h; exact hK _ hS'
      | skip => obtain ⟨rfl, hS'⟩ := h; exact hK _ hS'
      | enter f args =>
        refine Calls.mono h fun e w'' he => ?_
        obtain ⟨rfl, hS'⟩ := he
        exact hK _ hS'
      | _ => exact h.elim
    | halt x w' => exact h.elim
  · rename_i hwf
    rw [if_neg hwf] at h
    obtain ⟨rfl, hS⟩ := h
    exact hK _ hS
section
variable {ops : Array Oper} {o : Oper} {v : Value}
theorem StepT.val (hw : Region.wanted o (yielded ops a.tmps) = true) (hr : (execOp a.eval o).run P W = .ok (.value v) W) (hS : S W) : StepT P ops S a o v W := by
  unfold StepT; rw [if_pos hw, hr]; exact ⟨rfl, hS⟩
theorem StepT.off (hw : Region.wanted o (yielded ops a.tmps) = false) (hS : S W) (hv : undef = v) : StepT P ops S a o v W := by
  unfold StepT; rw [if_neg (by rw [hw]; decide)]; exact ⟨hv.symm, hS⟩
theorem StepT.store_mid (hw : Region.wanted o (yielded ops a.tmps) = true) (ty : TypeId) (x y : Operand) (ho : o.op = .store ty x y) (b k : Nat) (cells : Array Value) (hx : a.eval x = .pointer (some ⟨b, k, none⟩)) (hy : a.eval y = .agg cells)
    (ht : W.there b k cells.size) (hi : (P.info? ty).map (·.size) = some cells.size) (h1 : cells.all (·.oneCell') = true) (h : S (W.setCells b k cells.toList)) (hv : undef = v) : StepT P ops S a o v W := by
  unfold StepT; rw [if_pos hw]
  unfold execOp
  simp only [ho, hx, hy, Instr.storeAt, Instr.sureAddr, Sem.run_bind, Sem.run_pure, Result.andThen_ok, run_storeVar_mid W b k ty cells ht hi h1]
  exact ⟨hv, h⟩
theorem StepT.call {f : FuncId} {args : Array Value} (hw : Region.wanted o (yielded ops a.tmps) = true) (hr : (execOp a.eval o).run P W = .ok (.enter f args) W) (hc : Calls P f args W (fun e W'' => e = .returned v ∧ S W'')) : StepT P ops S a o v W := by
  unfold StepT; rw [if_pos hw, hr]; exact hc
/-- What is left of an operation that has run. -/
abbrev StepR (P : Program) (S : World → Prop) (v : Value) (r : Result Next) : Prop :=
  match r with
  | .ok (.value u) W' => u = v ∧ S W'
  | .ok .skip W' => undef = v ∧ S W'
  | .ok (.enter f args) W' => Calls P f args W' (fun e W'' => e = .returned v ∧ S W'')
  | _ => False
theorem StepT.go (hw : Region.wanted o (yielded ops a.tmps) = true) (h : StepR P S v ((execOp a.eval o).run P W)) : StepT P ops S a o v W := by
  unfold StepT; rw [if_pos hw]; exact h
theorem StepsF.cons {F : Nat → World → Prop} {i : Nat} {l : List Oper} {V : List Value} (h : ∀ W, S W → StepT P ops (After S F i W) a o v W) (k : StepsF P ops S F (i + 1) l V (a.put o.dst v)) : StepsF P ops S F i (o :: l) (v :: V) a := ⟨h, k⟩
theorem StepsT.cons {l : List Oper} {V : List Value} (h : ∀ W, S W → StepT P ops S a o v W) (k : StepsT P ops S l V (a.put o.dst v)) : StepsT P ops S (o :: l) (v :: V) a := ⟨h, k⟩
end
/-- **A region whose operations keep S, carried out in the order of the text, is carried out**; F i: what operation i leaves behind. -/
theorem wp_region_steadyF {id : Nat} {w : World} {Q : Exit → Act → World → Prop} (S : World → Prop) (F : Nat → World → Prop) (V : List Value) (hm : P.follows .mixedOrders = true) (hok : steadyOk l = true) (hlen : V.length = l.length)
    (hS : S { w with drawn := w.drawn + 1 }) (hsteps : StepsF P l.toArray S F 0 l V a0) (hQ : ∀ W, S W → (∀ j, j < l.length → F j W) → Q .normal (putAll l V a0) W) : (Code.region id l.toArray true).wp P Q a0 w := by
  refine wp_region_any hm ?_
  refine wpAny_inv (SteadyJ l V a0 S F) (fun L a W h => by rw [h.size]; simp) (fun L a W i h hi => ?_) (fun L a W h hr => ?_) _ _ _ _
    ⟨by simp, fun i o hi hL => ?_, hS, fun j hj hL => ?_, rfl, rfl, fun t _ => rfl, fun j o v t hj _ _ hL => ?_⟩ ?_
  · unfold Region.ready at hi
    simp only [List.mem_filter, List.mem_range, Bool.and_eq_true, Bool.not_eq_true'] at hi
    obtain ⟨hlt, hun, hrd⟩ := hi
    have hil : i < l.length := by simpa using hlt
    obtain ⟨o, ho⟩ : ∃ o, l[i]? = some o := ⟨_, List.getElem?_eq_getElem hil⟩
    have hoa : l.toArray[i]? = some o := by simpa using ho
    rw [hoa] at hrd
    simp only [Option.map_some, Option.getD_some, Array.all_eq_true'] at hrd
    have hrdy : ∀ k ∈ dirOf o, L.getD k true = true := fun k hk => by
      unfold dirOf at hk
      obtain ⟨e, he, rfl⟩ := List.mem_map.1 hk
      obtain ⟨he1, he2⟩ := List.mem_filter.1 he
      have h1 := hrd e (by simpa using he1)
      rw [he2] at h1
      simp only [Bool.not_true, Bool.false_or] at h1
      have hk2 := (steadyOk_at hok ho).2.1 e.on hk
      rw [Array.getD_eq_getD_getElem?] at h1 ⊢
      rw [Array.getElem?_eq_getElem (by rw [h.size]; omega)] at h1 ⊢
      exact h1
    obtain ⟨v, hv, hst⟩ := hsteps.at i o ho
    have hlook := h.looks hok hlen ho hun hrdy
    rw [Nat.zero_add] at hst
    refine StepT.wpOp hoa (hst W h.st) ?_ ?_ (fun W' hS' => h.put hok ho hv hun hrdy hS')
    · refine execOp_congr o (fun cs b e => ?_) (fun x hx => ?_)
      · have := (steadyOk_at hok ho).1
        rw [e] at this
        cases this
      · cases x with
        | tmp t =>
          have := hlook t (by unfold Oper.looksAt; exact List.mem_append_left _ (List.mem_filterMap.2 ⟨.tmp t, by simpa using hx, rfl⟩))
          show a.tmps.getD t undef = (stateAt l V a0 i).tmps.getD t undef
          rw [Array.getD_eq_getD_getElem?, Array.getD_eq_getD_getElem?, this]
        | _ => rfl
    · unfold Region.wanted
      cases hg : o.guard with
      | none => rfl
      | some gw =>
        obtain ⟨q, want⟩ := gw
        have hy : yielded l.toArray a.tmps q = yielded l.toArray (stateAt l V a0 i).tmps q := by
          unfold yielded
          cases ht : (l.toArray[q]?).bind (·.dst) with
          | none => rfl
          | some t =>
            have := hlook t (by unfold Oper.looksAt; refine List.mem_append_right _ ?_; rw [hg]; simp only [ht]; simp)
            simp only [Option.bind_some, this]
        simp only [hy]
  · -- all are done
    have hall : ∀ i, i < l.length → L.getD i true = true := by
      intro i
      induction i using Nat.strongRecOn with
      | _ i ih =>
        intro hil
        rw [← Bool.not_eq_false]
        intro hun
        obtain ⟨o, ho⟩ : ∃ o, l[i]? = some o := ⟨_, List.getElem?_eq_getElem hil⟩
        have hoa : l.toArray[i]? = some o := by simpa using ho
        have hmem : i ∈ Region.ready .any l.toArray L := by
          unfold Region.ready
          simp only [List.mem_filter, List.mem_range, Bool.and_eq_true, Bool.not_eq_true']
          refine ⟨by simpa using hil, hun, ?_⟩
          rw [hoa]
          simp only [Option.map_some, Option.getD_some, Array.all_eq_true']
          intro e he
          by_cases hb : Region.binds .any e = true
          · have hk : e.on ∈ dirOf o := List.mem_map.2 ⟨e, List.mem_filter.2 ⟨by simpa using he, hb⟩, rfl⟩
            have hlt := (steadyOk_at hok ho).2.1 e.on hk
            have h1 := ih e.on hlt (by omega)
            rw [Array.getD_eq_getD_getElem?, Array.getElem?_eq_getElem (by rw [h.size]; omega)] at h1 ⊢
            rw [hb]
            simpa using h1
          · rw [Bool.not_eq_true] at hb; rw [hb]; rfl
        rw [hr] at hmem
        cases hmem
    have ha : a = putAll l V a0 := by
      rw [putAll_eq]
      obtain ⟨hz, hd⟩ := stateAt_size l V a0 l.length
      have ht : a.tmps = (stateAt l V a0 l.length).tmps := by
        apply Array.ext_getElem?
        intro t
        by_cases hex : ∃ (j : Nat) (x : Oper), l[j]? = some x ∧ x.dst = some t
        · obtain ⟨j, x, hj, hx⟩ := hex
          have hjl := (List.getElem?_eq_some_iff.1 hj).1
          obtain ⟨v, hv⟩ : ∃ v, V[j]? = some v := ⟨V[j]'(by rw [hlen]; exact hjl), List.getElem?_eq_getElem _⟩
          rw [h.done j x v t hj hv hx (hall j hjl), stateAt_own l V a0 l.length j t x v hjl hj hv hx fun q y hq hy hdy => hq (steady_unique hok hy hj hdy hx)]
        · rw [h.old t fun q y hq hy => absurd ⟨q, y, hq, hy⟩ hex, stateAt_other l V a0 l.length t fun q y _ hq hy => hex ⟨q, y, hq, hy⟩]
      obtain ⟨at_, ad⟩ := a
      have hdef := h.defers
      simp only at ht hdef
      rw [ht, hdef, ← hd]
    rw [ha]
    exact hQ W h.st fun j hj => h.eff j hj (hall j hj)
  · have hlt := (List.getElem?_eq_some_iff.1 hi).1
    replace hL : (Array.replicate l.toArray.size false).getD i true = true := hL
    rw [Array.getD_eq_getD_getElem?, Array.getElem?_eq_getElem (by simpa using hlt)] at hL
    simp at hL
  · rw [Array.getD_eq_getD_getElem?, Array.getElem?_eq_getElem (by simpa using hj)] at hL
    simp at hL
  · have hlt := (List.getElem?_eq_some_iff.1 hj).1
    rw [Array.getD_eq_getD_getElem?, Array.getElem?_eq_getElem (by simpa using hlt)] at hL
    simp at hL
  · exact Nat.le_trans (List.count_le_length) (by simp)
theorem wp_region_steady {id : Nat} {w : World} {Q : Exit → Act → World → Prop} (S : World → Prop) (V : List Value) (hm : P.follows .mixedOrders = true) (hok : steadyOk l = true) (hlen : V.length = l.length)
    (hS : S { w with drawn := w.drawn + 1 }) (hsteps : StepsT P l.toArray S l V a0) (hQ : ∀ W, S W → Q .normal (putAll l V a0) W) : (Code.region id l.toArray true).wp P Q a0 w :=
  wp_region_steadyF S (fun _ _ => True) V hm hok hlen hS hsteps.steps fun W h _ => hQ W h
end
end Go.Proofs.YtfbdklminljecaaGreatDoor
namespace Go.Proofs.YtfbdklminljecaaGreatDoor
open Go.RowKit

/-- What is known of the operations' values: none: not yet carried out. -/
abbrev Vs := List (Option Value)
def known (V : Vs) : List Value := V.map (·.getD undef)
/-- Whatever is carried out has what it waits for carried out. -/
def Closed (l : List Oper) (V : Vs) : Prop := ∀ j x, l[j]? = some x → (V.getD j none).isSome = true → ∀ k ∈ dirOf x, (V.getD k none).isSome = true
abbrev StepXR (P : Program) (Φ : Vs → World → Prop) (V : Vs) (i : Nat) (o : Oper) (r : Result Next) : Prop :=
  match r with
  | .ok (.value u) W' => Φ (V.set i (some u)) W'
  | .ok .skip W' => o.dst = none ∧ Φ (V.set i (some (.bool true))) W'
  | .ok (.enter f args) W' => Calls P f args W' (fun e W'' => ∃ u, e = .returned u ∧ Φ (V.set i (some u)) W'')
  | _ => False
def StepX (P : Program) (ops : Array Oper) (Φ : Vs → World → Prop) (V : Vs) (i : Nat) (a : Act) (o : Oper) (W : World) : Prop :=
  Region.wanted o (yielded ops a.tmps) = true ∧ StepXR P Φ V i o ((execOp a.eval o).run P W)
theorem known_at {V : Vs} {i : Nat} (h : i < V.length) : (known V)[i]? = some ((V.getD i none).getD undef) := by
  unfold known; simp [h]
section
variable {P : Program} {l : List Oper} {a a0 : Act} {W : World}
theorem put_none {a : Act} {v u : Value} : a.put none v = a.put none u := rfl
/-- The values known so far are changed at an operation that is still to come. -/
theorem SteadyJ.turn {V : Vs} {L : Array Bool} (h : SteadyJ l (known V) a0 (fun _ => True) (fun _ _ => True) L a W) {i : Nat} (hun : L.getD i true = false) (u : Value) :
    SteadyJ l (known (V.set i (some u))) a0 (fun _ => True) (fun _ _ => True) L a W :=
  ⟨h.size, h.shut, trivial, fun _ _ _ => trivial, h.defers, h.tsize, h.old, fun j o v t hj hv hd hL => by
    refine h.done j o v t hj ?_ hd hL
    have hne : i ≠ j := fun e => by subst e; rw [hun] at hL; cases hL
    unfold known at hv ⊢
    rw [List.getElem?_map] at hv ⊢
    rwa [List.getElem?_set_ne hne] at hv⟩
theorem SteadyJ.final (hok : steadyOk l = true) {V : List Value} {L : Array Bool} (hlen : V.length = l.length) (h : SteadyJ l V a0 (fun _ => True) (fun _ _ => True) L a W) (hr : Region.ready .any l.toArray L = []) : (∀ i, i < l.length → L.getD i true = true) ∧ a = putAll l V a0 := by
  have hall : ∀ i, i < l.length → L.getD i true = true := by
    intro i
    induction i using Nat.strongRecOn with
    | _ i ih =>
      intro hil
      rw [← Bool.not_eq_false]
      intro hun
      obtain ⟨o, ho⟩ : ∃ o, l[i]? = some o := ⟨_, List.getElem?_eq_getElem hil⟩
      have hoa : l.toArray[i]? = some o := by simpa using ho
      have hmem : i ∈ Region.ready .any l.toArray L := by
        unfold Region.ready
        simp only [List.mem_filter, List.mem_range, Bool.and_eq_true, Bool.not_eq_true']
        refine ⟨by simpa using hil, hun, ?_⟩
        rw [hoa]
        simp only [Option.map_some, Option.getD_some, Array.all_eq_true']
        intro e he
        by_cases hb : Region.binds .any e = true
        · have hk : e.on ∈ dirOf o := List.mem_map.2 ⟨e, List.mem_filter.2 ⟨by simpa using he, hb⟩, rfl⟩
          have hlt := (steadyOk_at hok ho).2.1 e.on hk
          have h1 := ih e.on hlt (by omega)
          rw [Array.getD_eq_getD_getElem?, Array.getElem?_eq_getElem (by rw [h.size]; omega)] at h1 ⊢
          rw [hb]
          simpa using h1
        · rw [Bool.not_eq_true] at hb; rw [hb]; rfl
      rw [hr] at hmem
      cases hmem
  have ha : a = putAll l V a0 := by
    rw [putAll_eq]
    obtain ⟨hz, hd⟩ := stateAt_size l V a0 l.length
    have ht : a.tmps = (stateAt l V a0 l.length).tmps := by
      apply Array.ext_getElem?
      intro t
      by_cases hex : ∃ (j : Nat) (x : Oper), l[j]? = some x ∧ x.dst = some t
      · obtain ⟨j, x, hj, hx⟩ := hex
        have hjl := (List.getElem?_eq_some_iff.1 hj).1
        obtain ⟨v, hv⟩ : ∃ v, V[j]? = some v := ⟨V[j]'(by rw [hlen]; exact hjl), List.getElem?_eq_getElem _⟩
        rw [h.done j x v t hj hv hx (hall j hjl), stateAt_own l V a0 l.length j t x v hjl hj hv hx fun q y hq hy hdy => hq (steady_unique hok hy hj hdy hx)]
      · rw [h.old t fun q y hq hy => absurd ⟨q, y, hq, hy⟩ hex, stateAt_other l V a0 l.length t fun q y _ hq hy => hex ⟨q, y, hq, hy⟩]
    obtain ⟨at_, ad⟩ := a
    have hdef := h.defers
    simp only at ht hdef
    rw [ht, hdef, ← hd]
  exact ⟨hall, ha⟩
theorem StepX.wpOp {ops : Array Oper} {Q : Exit → Act → World → Prop} {Φ : Vs → World → Prop} {V : Vs} {aT : Act} {i : Nat} {o : Oper} {K : Act → World → Prop} (hi : ops[i]? = some o) (h : StepX P ops Φ V i aT o W) (he : execOp a.eval o = execOp aT.eval o)
    (hw : Region.wanted o (yielded ops a.tmps) = Region.wanted o (yielded ops aT.tmps)) (hK : ∀ u W', Φ (V.set i (some u)) W' → K (a.put o.dst u) W') : Go.wpOp P ops Q i K a W := by
  unfold Go.wpOp
  simp only [hi]
  obtain ⟨h1, h2⟩ := h
  rw [← hw] at h1
  rw [if_pos h1]
  refine .inl ?_
  unfold Oper.wp
  rw [he]
  generalize (execOp aT.eval o).run P W = r at *
  cases r with
  | ok n w' =>
    cases n with
    | value u => exact hK _ _ h2
    | skip =>
      obtain ⟨hd, hS'⟩ := h2
      have := hK _ _ hS'
      rw [hd] at this
      show K (a.put o.dst undef) w'
      rw [hd]
      exact this
    | enter f args =>
      refine Calls.mono h2 fun e w'' he => ?_
      obtain ⟨u, rfl, hS'⟩ := he
      exact hK _ _ hS'
    | _ => exact h2.elim
  | halt x w' => exact h2.elim
/-- **A region, by a condition on its values and the world, in every order that its edges allow.** -/
theorem wp_region_exist {id : Nat} {w : World} {Q : Exit → Act → World → Prop} (Φ : Vs → World → Prop) (hm : P.follows .mixedOrders = true) (hok : steadyOk l = true)
    (h0 : Φ (List.replicate l.length none) { w with drawn := w.drawn + 1 })
    (hstep : ∀ i o V W, l[i]? = some o → V.length = l.length → V.getD i none = none → (∀ k ∈ dirOf o, (V.getD k none).isSome = true) → Φ V W → Closed l V → StepX P l.toArray Φ V i (stateAt l (known V) a0 i) o W)
    (hQ : ∀ V W, V.length = l.length → (∀ i, i < l.length → (V.getD i none).isSome = true) → Φ V W → Q .normal (putAll l (known V) a0) W) : (Code.region id l.toArray true).wp P Q a0 w := by
  refine wp_region_any hm ?_
  refine wpAny_inv (fun L a W => ∃ V : Vs, V.length = l.length ∧ (∀ i, i < l.length → (V.getD i none).isSome = L.getD i true) ∧ Φ V W ∧ SteadyJ l (known V) a0 (fun _ => True) (fun _ _ => True) L a W)
    (fun L a W h => by obtain ⟨V, _, _, _, h⟩ := h; rw [h.size]; simp) (fun L a W i h hi => ?_) (fun L a W h hr => ?_) _ _ _ _
    ⟨List.replicate l.length none, by simp, fun i hi => ?_, h0, by simp, fun i o hi hL => ?_, trivial, fun j hj hL => trivial, rfl, rfl, fun t _ => rfl, fun j o v t hj _ _ hL => ?_⟩ ?_
  · obtain ⟨V, hlen, hV, hΦ, h⟩ := h
    unfold Region.ready at hi
    simp only [List.mem_filter, List.mem_range, Bool.and_eq_true, Bool.not_eq_true'] at hi
    obtain ⟨hlt, hun, hrd⟩ := hi
    have hil : i < l.length := by simpa using hlt
    obtain ⟨o, ho⟩ : ∃ o, l[i]? = some o := ⟨_, List.getElem?_eq_getElem hil⟩
    have hoa : l.toArray[i]? = some o := by simpa using ho
    rw [hoa] at hrd
    simp only [Option.map_some, Option.getD_some, Array.all_eq_true'] at hrd
    have hrdy : ∀ k ∈ dirOf o, L.getD k true = true := fun k hk => by
      unfold dirOf at hk
      obtain ⟨e, he, rfl⟩ := List.mem_map.1 hk
      obtain ⟨he1, he2⟩ := List.mem_filter.1 he
      have h1 := hrd e (by simpa using he1)
      rw [he2] at h1
      simp only [Bool.not_true, Bool.false_or] at h1
      have hk2 := (steadyOk_at hok ho).2.1 e.on hk
      rw [Array.getD_eq_getD_getElem?] at h1 ⊢
      rw [Array.getElem?_eq_getElem (by rw [h.size]; omega)] at h1 ⊢
      exact h1
    have hlk : (known V).length = l.length := by unfold known; simp [hlen]
    have hlook := h.looks hok hlk ho hun hrdy
    have hiV : V.getD i none = none := by
      have := hV i hil
      rw [hun] at this
      cases hx : V.getD i none with
      | none => rfl
      | some v => exact absurd (hx ▸ this) (by simp)
    have hst := hstep i o V W ho hlen hiV (fun k hk => by rw [hV k (by have := (steadyOk_at hok ho).2.1 k hk; omega)]; exact hrdy k hk) hΦ (fun j x hj hs k hk => by
      have hjl := (List.getElem?_eq_some_iff.1 hj).1
      have h1 : L.getD j true = true := by rw [← hV j hjl]; exact hs
      have h2 := h.shut j x hj h1 k hk
      rw [hV k (by have := (steadyOk_at hok hj).2.1 k hk; omega)]; exact h2)
    refine StepX.wpOp hoa hst ?_ ?_ (fun u W' hS' => ⟨V.set i (some u), by simp [hlen], fun j hj => ?_, hS', (h.turn hun u).put hok ho (by unfold known; simp [hlen, hil]) hun hrdy ⟨trivial, trivial, fun _ _ => trivial⟩⟩)
    · refine execOp_congr o (fun cs b e => ?_) (fun x hx => ?_)
      · have := (steadyOk_at hok ho).1
        rw [e] at this
        cases this
      · cases x with
        | tmp t =>
          have := hlook t (by unfold Oper.looksAt; exact List.mem_append_left _ (List.mem_filterMap.2 ⟨.tmp t, by simpa using hx, rfl⟩))
          show a.tmps.getD t undef = (stateAt l (known V) a0 i).tmps.getD t undef
          rw [Array.getD_eq_getD_getElem?, Array.getD_eq_getD_getElem?, this]
        | _ => rfl
    · unfold Region.wanted
      cases hg : o.guard with
      | none => rfl
      | some gw =>
        obtain ⟨q, want⟩ := gw
        have hy : yielded l.toArray a.tmps q = yielded l.toArray (stateAt l (known V) a0 i).tmps q := by
          unfold yielded
          cases ht : (l.toArray[q]?).bind (·.dst) with
          | none => rfl
          | some t =>
            have := hlook t (by unfold Oper.looksAt; refine List.mem_append_right _ ?_; rw [hg]; simp only [ht]; simp)
            simp only [Option.bind_some, this]
        simp only [hy]
    · by_cases hij : j = i
      · subst hij
        rw [getD_set_self]
        simp [hlen, hj]
      · rw [getD_set_other hij, ← hV j hj]
        rw [List.getD_eq_getElem?_getD, List.getElem?_set_ne (fun e => hij e.symm), ← List.getD_eq_getElem?_getD]
  · obtain ⟨V, hlen, hV, hΦ, h⟩ := h
    obtain ⟨hall, ha⟩ := h.final hok (by unfold known; simp [hlen]) hr
    rw [ha]
    exact hQ V W hlen (fun i hi => by rw [hV i hi]; exact hall i hi) hΦ
  · rw [List.getD_eq_getElem?_getD, List.getElem?_replicate, if_pos hi, Array.getD_eq_getD_getElem?, Array.getElem?_eq_getElem (by simpa using hi)]
    simp
  · have hlt := (List.getElem?_eq_some_iff.1 hi).1
    replace hL : (Array.replicate l.toArray.size false).getD i true = true := hL
    rw [Array.getD_eq_getD_getElem?, Array.getElem?_eq_getElem (by simpa using hlt)] at hL
    simp at hL
  · have hlt := (List.getElem?_eq_some_iff.1 hj).1
    rw [Array.getD_eq_getD_getElem?, Array.getElem?_eq_getElem (by simpa using hlt)] at hL
    simp at hL
  · exact Nat.le_trans (List.count_le_length) (by simp)
/-- The operations one by one. -/
def StepsX (P : Program) (Φ : Vs → World → Prop) (l0 : List Oper) (a0 : Act) : Nat → List Oper → Prop
  | _, [] => True
  | i, o :: l => (∀ V W, V.length = l0.length → V.getD i none = none → (∀ k ∈ dirOf o, (V.getD k none).isSome = true) → Φ V W → Closed l0 V → StepX P l0.toArray Φ V i (stateAt l0 (known V) a0 i) o W) ∧ StepsX P Φ l0 a0 (i + 1) l
theorem StepsX.at {Φ : Vs → World → Prop} {l0 : List Oper} : ∀ {l : List Oper} {k : Nat}, StepsX P Φ l0 a0 k l → ∀ i o V W, l[i]? = some o → V.length = l0.length → V.getD (k + i) none = none → (∀ q ∈ dirOf o, (V.getD q none).isSome = true) → Φ V W → Closed l0 V → StepX P l0.toArray Φ V (k + i) (stateAt l0 (known V) a0 (k + i)) o W
  | [], _, _, i, o, V, W, h => by simp at h
  | x :: l, k, hs, 0, o, V, W, h => by
    simp at h; subst h
    exact hs.1 V W
  | x :: l, k, hs, i + 1, o, V, W, h => by
    have := StepsX.at hs.2 i o V W (by simpa using h)
    rwa [show k + 1 + i = k + (i + 1) by omega] at this
theorem StepsX.all {Φ : Vs → World → Prop} (h : StepsX P Φ l a0 0 l) : ∀ i o V W, l[i]? = some o → V.length = l.length → V.getD i none = none → (∀ k ∈ dirOf o, (V.getD k none).isSome = true) → Φ V W → Closed l V → StepX P l.toArray Φ V i (stateAt l (known V) a0 i) o W := fun i o V W h1 h2 h3 h4 h5 h6 => by
  have := h.at i o V W h1 h2 (by rwa [Nat.zero_add]) h4 h5 h6
  rwa [Nat.zero_add] at this
theorem len8 {α : Type} {V : List α} (h : V.length = 8) : ∃ a b c d e f g i, V = [a, b, c, d, e, f, g, i] := by
  match V, h with
  | [a, b, c, d, e, f, g, i], _ => exact ⟨a, b, c, d, e, f, g, i, rfl⟩
theorem len13 {α : Type} {V : List α} (h : V.length = 13) : ∃ a b c d e f g i j k m n o, V = [a, b, c, d, e, f, g, i, j, k, m, n, o] := by
  match V, h with
  | [a, b, c, d, e, f, g, i, j, k, m, n, o], _ => exact ⟨a, b, c, d, e, f, g, i, j, k, m, n, o, rfl⟩
end
end Go.Proofs.YtfbdklminljecaaGreatDoor
namespace Go.Proofs.YtfbdklminljecaaGreatDoor
open Go.RowKit
attribute [local go_sem] stateAt known List.map_cons List.map_nil Option.getD_some

theorem powNamed2 : Tryz.prog.globalNamed "internal/strconv.uint64pow10" = some 1 := by kernel_rfl
theorem tab_ext2 {n : String} {g : Nat} {k : IntKind} {zs : List Int} {w w' : World} (hg : Tryz.prog.globalNamed n = some g) (h : Lib.TabIs Tryz.prog w n k zs) (hb : Ext w w') : Lib.TabIs Tryz.prog w' n k zs := by
  unfold Lib.TabIs World.var? at h ⊢
  rw [hg] at h ⊢
  simp only [Option.bind_some] at h ⊢
  have hlt : g < w.heap.size := by
    rcases Nat.lt_or_ge g w.heap.size with h' | h'
    · exact h'
    · rw [Array.getElem?_eq_none h'] at h; cases h
  rw [hb.block hlt]
  exact h
theorem Ext.grow2 {a b : World} (h : Ext a b) (os : Array Obj) : Ext a (Sort.grow b os) :=
  ⟨h.os, h.tape, h.output, by have := h.size; simp [Sort.grow]; omega, fun k hk => by
    have : k < b.heap.size := Nat.lt_of_lt_of_le hk h.size
    show (b.heap ++ os)[k]? = _
    rw [Array.getElem?_append_left this]
    exact h.block hk⟩
/-- The figures as one value. -/
def figsArr : Array Value := #[.int .i64 1000, .string ⟨#[109]⟩, .int .i64 900, .string ⟨#[99, 109]⟩, .int .i64 500, .string ⟨#[100]⟩, .int .i64 400, .string ⟨#[99, 100]⟩, .int .i64 100, .string ⟨#[99]⟩, .int .i64 90, .string ⟨#[120, 99]⟩, .int .i64 50, .string ⟨#[108]⟩, .int .i64 40, .string ⟨#[120, 108]⟩, .int .i64 10, .string ⟨#[120]⟩, .int .i64 9, .string ⟨#[105, 120]⟩, .int .i64 5, .string ⟨#[118]⟩, .int .i64 4, .string ⟨#[105, 118]⟩, .int .i64 1, .string ⟨#[105]⟩]
/-- The tables of chapter 5: powers of ten, and the roman figures. -/
structure FigT (w : World) : Prop where
  pow : Lib.TabIs Tryz.prog w "internal/strconv.uint64pow10" .u64 Lib.pow10Tab
  fig : w.rangeAt 0 0 figsArr.toList
  lt : 0 < w.heap.size
theorem FigT.ext {w w' : World} (h : FigT w) (hx : Ext w w') : FigT w' :=
  ⟨tab_ext2 powNamed2 h.pow hx, fun j v hj => (hx.cell (p := ⟨_, _, none⟩) h.lt).trans (h.fig j v hj), Nat.lt_of_lt_of_le h.lt hx.size⟩
theorem itoa2_any (n : Int) (w : World) (hn : I64 n) (hT : FigT w) : Calls Tryz.prog 38 #[.int .i64 n] w (Ret (.string ⟨(Lib.itoa n).toArray⟩) w) :=
  (Tryz.strconv_Itoa n hn.1 hn.2 w hT.pow).mono fun e w' ⟨he, k, os, hw⟩ => ⟨he, by rw [hw]; exact ((Ext.refl w).drewN k).grow2 os⟩
theorem index_figs (W : World) (k : Nat) (hk : k < 13) : (Instr.index 94 (.agg figsArr) (.int .i64 (k : Int))).run Tryz.prog W = .ok (.agg #[.int .i64 ((figs.getD k (0, [])).1 : Int), .string ⟨(figs.getD k (0, [])).2.toArray⟩]) W := by
  match k, hk with
  | 0, _ | 1, _ | 2, _ | 3, _ | 4, _ | 5, _ | 6, _ | 7, _ | 8, _ | 9, _ | 10, _ | 11, _ | 12, _ => (show _ = _; kernel_rfl)
theorem fig_bd (k : Nat) (hk : k < 13) : (1 ≤ (figs.getD k (0, [])).1 ∧ (figs.getD k (0, [])).1 ≤ 1000) ∧ (figs.getD k (0, [])).2.length ≤ 2 ∧ 1 ≤ (figs.getD k (0, [])).2.length := by
  match k, hk with
  | 0, _ | 1, _ | 2, _ | 3, _ | 4, _ | 5, _ | 6, _ | 7, _ | 8, _ | 9, _ | 10, _ | 11, _ | 12, _ => decide
theorem romL_drop (k : Nat) (hk : k < 13) (m : Nat) : romL (figs.drop k) m = repL (figs.getD k (0, [])).2 (m / (figs.getD k (0, [])).1) ++ romL (figs.drop (k + 1)) (m % (figs.getD k (0, [])).1) := by
  match k, hk with
  | 0, _ | 1, _ | 2, _ | 3, _ | 4, _ | 5, _ | 6, _ | 7, _ | 8, _ | 9, _ | 10, _ | 11, _ | 12, _ => rfl
/-- The folio of m by the figures from the k-th on. -/
def romT (k m : Nat) : List UInt8 := romL (figs.drop k) m
theorem romT_zero (n : Nat) : romT 0 n = romL figs n := rfl
theorem romT_end (m : Nat) : romT 13 m = [] := rfl
theorem romT_next (k : Nat) (hk : k < 13) (m : Nat) : romT k m = repL (figs.getD k (0, [])).2 (m / (figs.getD k (0, [])).1) ++ romT (k + 1) (m % (figs.getD k (0, [])).1) := romL_drop k hk m
theorem repL_len (t : List UInt8) : ∀ c, (repL t c).length = c * t.length
  | 0 => by simp [repL]
  | c + 1 => by rw [repL, List.length_append, repL_len t c, Nat.succ_mul]
theorem figs_load : ∃ FA : List Value, (∀ W : World, FigT W → W.rangeAt 0 0 FA) ∧ (Tryz.prog.info? 94).map (·.size) = some FA.length ∧
    ∀ (W : World) (k : Nat), k < 13 → (Instr.index 94 (.agg FA.toArray) (.int .i64 (k : Int))).run Tryz.prog W = .ok (.agg #[.int .i64 ((figs.getD k (0, [])).1 : Int), .string ⟨(figs.getD k (0, [])).2.toArray⟩]) W :=
  ⟨figsArr.toList, fun _ h => h.fig, by kernel_rfl, fun W k hk => by rw [Array.toArray_toList]; exact index_figs W k hk⟩
theorem repL_eq (t : List UInt8) : ∀ c, Lib.repeatL t c = repL t c
  | 0 => rfl
  | c + 1 => by
    rw [repL, ← repL_eq t c, Lib.repeatL_add t c 1, Lib.repeatL_one]
def folV (n : Int) (rom : Bool) : Value := .tuple #[.string ⟨(folL n rom).1.toArray⟩, .int .i64 (folL n rom).2]
/-- The statement that writes one figure. -/
structure FX (w wq : World) (sf : Nat) (tt : List UInt8) (vv m : Nat) (l : List UInt8) (v0 v1 v2 v3 v4 v5 v6 v7 : Option Value) (W : World) : Prop where
  e : v7 = none → Ext wq W
  a : v7.isSome = true → v0.isSome = true ∧ v1.isSome = true ∧ v2.isSome = true ∧ v3.isSome = true ∧ v4.isSome = true ∧ v5.isSome = true ∧ v6.isSome = true
  d : v7.isSome = true → (∃ v, Bld W (w.heap.size + 1) w.heap.size v (l ++ repL tt (m / vv))) ∧ Ext w W ∧ Blk W sf 93 #[.int .i64 (vv : Int), .string ⟨tt.toArray⟩]
  p0 : ∀ v, v0 = some v → v = .pointer (some ⟨sf, 1, none⟩)
  p1 : ∀ v, v1 = some v → v = .string ⟨tt.toArray⟩
  p2 : ∀ v, v2 = some v → v = .int .i64 (m : Int)
  p3 : ∀ v, v3 = some v → v = .pointer (some ⟨sf, 0, none⟩)
  p4 : ∀ v, v4 = some v → v = .int .i64 (vv : Int)
  p5 : ∀ v, v5 = some v → v = .int .i64 ((m / vv : Nat) : Int)
  p6 : ∀ v, v6 = some v → v = .string ⟨(repL tt (m / vv)).toArray⟩
def FXl (w wq : World) (sf : Nat) (tt : List UInt8) (vv m : Nat) (l : List UInt8) : Vs → World → Prop
  | [v0, v1, v2, v3, v4, v5, v6, v7], W => FX w wq sf tt vv m l v0 v1 v2 v3 v4 v5 v6 v7 W
  | _, _ => False
section
variable {w wq W W' : World} {sf : Nat} {tt l : List UInt8} {vv m : Nat} {v0 v1 v2 v3 v4 v5 v6 v7 : Option Value}
theorem FXl_out (h : FXl w wq sf tt vv m l [v0, v1, v2, v3, v4, v5, v6, v7] W) : FX w wq sf tt vv m l v0 v1 v2 v3 v4 v5 v6 v7 W := h
theorem FX.none7 (h : FX w wq sf tt vv m l v0 v1 v2 v3 v4 v5 v6 v7 W) (hn : v0 = none ∨ v1 = none ∨ v2 = none ∨ v3 = none ∨ v4 = none ∨ v5 = none ∨ v6 = none) : v7 = none := by
  cases v7 with
  | none => rfl
  | some u =>
    obtain ⟨a0, a1, a2, a3, a4, a5, a6⟩ := h.a rfl
    rcases hn with rfl | rfl | rfl | rfl | rfl | rfl | rfl
    · cases a0
    · cases a1
    · cases a2
    · cases a3
    · cases a4
    · cases a5
    · cases a6
theorem FX.zero (h : Ext wq W) : FX w wq sf tt vv m l none none none none none none none none W :=
  ⟨fun _ => h, fun e => (by cases e), fun e => (by cases e), fun _ e => (by cases e), fun _ e => (by cases e), fun _ e => (by cases e), fun _ e => (by cases e), fun _ e => (by cases e), fun _ e => (by cases e), fun _ e => (by cases e)⟩
/-- A further value, while the writing is to come. -/
theorem FX.put (h : FX w wq sf tt vv m l v0 v1 v2 v3 v4 v5 v6 none W) (hx : Ext W W') {u0 u1 u2 u3 u4 u5 u6 : Option Value} (h0 : ∀ v, u0 = some v → v0 = some v ∨ v = .pointer (some ⟨sf, 1, none⟩)) (h1 : ∀ v, u1 = some v → v1 = some v ∨ v = .string ⟨tt.toArray⟩) (h2 : ∀ v, u2 = some v → v2 = some v ∨ v = .int .i64 (m : Int))
    (h3 : ∀ v, u3 = some v → v3 = some v ∨ v = .pointer (some ⟨sf, 0, none⟩)) (h4 : ∀ v, u4 = some v → v4 = some v ∨ v = .int .i64 (vv : Int)) (h5 : ∀ v, u5 = some v → v5 = some v ∨ v = .int .i64 ((m / vv : Nat) : Int)) (h6 : ∀ v, u6 = some v → v6 = some v ∨ v = .string ⟨(repL tt (m / vv)).toArray⟩) :
    FX w wq sf tt vv m l u0 u1 u2 u3 u4 u5 u6 none W' :=
  ⟨fun _ => (h.e rfl).trans hx, fun e => (by cases e), fun e => (by cases e), fun v e => (h0 v e).elim (h.p0 v) id, fun v e => (h1 v e).elim (h.p1 v) id, fun v e => (h2 v e).elim (h.p2 v) id, fun v e => (h3 v e).elim (h.p3 v) id, fun v e => (h4 v e).elim (h.p4 v) id, fun v e => (h5 v e).elim (h.p5 v) id, fun v e => (h6 v e).elim (h.p6 v) id⟩
theorem FX.s0 (h : FX w wq sf tt vv m l none v1 v2 v3 v4 v5 v6 none W) : FX w wq sf tt vv m l (some (.pointer (some ⟨sf, 1, none⟩))) v1 v2 v3 v4 v5 v6 none W :=
  h.put (Ext.refl _) (fun _ e => (by cases e; exact .inr rfl)) (fun _ e => .inl e) (fun _ e => .inl e) (fun _ e => .inl e) (fun _ e => .inl e) (fun _ e => .inl e) (fun _ e => .inl e)
theorem FX.s1 (h : FX w wq sf tt vv m l v0 none v2 v3 v4 v5 v6 none W) : FX w wq sf tt vv m l v0 (some (.string ⟨tt.toArray⟩)) v2 v3 v4 v5 v6 none W :=
  h.put (Ext.refl _) (fun _ e => .inl e) (fun _ e => (by cases e; exact .inr rfl)) (fun _ e => .inl e) (fun _ e => .inl e) (fun _ e => .inl e) (fun _ e => .inl e) (fun _ e => .inl e)
theorem FX.s2 (h : FX w wq sf tt vv m l v0 v1 none v3 v4 v5 v6 none W) : FX w wq sf tt vv m l v0 v1 (some (.int .i64 (m : Int))) v3 v4 v5 v6 none W :=
  h.put (Ext.refl _) (fun _ e => .inl e) (fun _ e => .inl e) (fun _ e => (by cases e; exact .inr rfl)) (fun _ e => .inl e) (fun _ e => .inl e) (fun _ e => .inl e) (fun _ e => .inl e)
theorem FX.s3 (h : FX w wq sf tt vv m l v0 v1 v2 none v4 v5 v6 none W) : FX w wq sf tt vv m l v0 v1 v2 (some (.pointer (some ⟨sf, 0, none⟩))) v4 v5 v6 none W :=
  h.put (Ext.refl _) (fun _ e => .inl e) (fun _ e => .inl e) (fun _ e => .inl e) (fun _ e => (by cases e; exact .inr rfl)) (fun _ e => .inl e) (fun _ e => .inl e) (fun _ e => .inl e)
theorem FX.s4 (h : FX w wq sf tt vv m l v0 v1 v2 v3 none v5 v6 none W) : FX w wq sf tt vv m l v0 v1 v2 v3 (some (.int .i64 (vv : Int))) v5 v6 none W :=
  h.put (Ext.refl _) (fun _ e => .inl e) (fun _ e => .inl e) (fun _ e => .inl e) (fun _ e => .inl e) (fun _ e => (by cases e; exact .inr rfl)) (fun _ e => .inl e) (fun _ e => .inl e)
theorem FX.s5 (h : FX w wq sf tt vv m l v0 v1 v2 v3 v4 none v6 none W) {u : Value} (hu : u = .int .i64 ((m / vv : Nat) : Int)) : FX w wq sf tt vv m l v0 v1 v2 v3 v4 (some u) v6 none W :=
  h.put (Ext.refl _) (fun _ e => .inl e) (fun _ e => .inl e) (fun _ e => .inl e) (fun _ e => .inl e) (fun _ e => .inl e) (fun _ e => (by cases e; exact .inr hu)) (fun _ e => .inl e)
theorem FX.s6 (h : FX w wq sf tt vv m l v0 v1 v2 v3 v4 v5 none none W) (hx : Ext W W') {u : Value} (hu : u = .string ⟨(repL tt (m / vv)).toArray⟩) : FX w wq sf tt vv m l v0 v1 v2 v3 v4 v5 (some u) none W' :=
  h.put hx (fun _ e => .inl e) (fun _ e => .inl e) (fun _ e => .inl e) (fun _ e => .inl e) (fun _ e => .inl e) (fun _ e => .inl e) (fun _ e => (by cases e; exact .inr hu))
end
end Go.Proofs.YtfbdklminljecaaGreatDoor
namespace Go.Proofs.YtfbdklminljecaaGreatDoor
open Go.RowKit
attribute [local go_sem] stateAt known List.map_cons List.map_nil Option.getD_some

set_option maxRecDepth 100000 in
set_option maxHeartbeats 4000000 in
theorem folio_any (n : Int) (rom : Bool) (w : World) (hn : I64 n) (hT : FigT w) : Calls Tryz.prog 17 #[.int .i64 n, .bool rom] w (Ret (folV n rom) w) := by
  by_cases hr : 1 ≤ n ∧ n ≤ 3999
  case neg =>
    have HV : Hid (folV n rom = .tuple #[.string ⟨#[]⟩, .int .i64 2]) := Lib.hid (by unfold folV folL; rw [if_pos hr])
    go_enter Tryz.func17, Tryz.ntmps17
    go_wp2_with (first | (go_at_call 37; refine Calls.mono (pWithin_yes _ _ _ _ ?_) ?_; (omega); rintro e w1 ⟨rfl, rfl⟩) | (go_at_call 37; refine Calls.mono (pWithin_no _ _ _ _ ?_) ?_; (omega); rintro e w1 ⟨rfl, rfl⟩))
    go_ret2
    exact Ret.mk' (by rw [HV.out]; rfl) (by repeat (first | exact Ext.refl _ | assumption | refine Ext.alloc ?_ _ | refine Ext.drew ?_ | refine Ext.drewN ?_ _ | (refine Ext.setCell ?_ (by simp <;> omega) _) | refine Ext.trans ?_ (by assumption)))
  case pos =>
  cases rom with
  | false =>
    have HV : Hid (folV n false = .tuple #[.string ⟨(Lib.itoa n).toArray⟩, .int .i64 0]) := Lib.hid (by unfold folV folL; rw [if_neg (by simpa using hr), if_neg (by decide)])
    have CI := Lib.hid (fun W h => itoa2_any n W hn h)
    have HT := Lib.hid hT; clear hT hn
    go_enter Tryz.func17, Tryz.ntmps17
    go_wp2_with (first | (go_at_call 37; refine Calls.mono (pWithin_yes _ _ _ _ ?_) ?_; (omega); rintro e w1 ⟨rfl, rfl⟩) | (go_at_call 37; refine Calls.mono (pWithin_no _ _ _ _ ?_) ?_; (omega); rintro e w1 ⟨rfl, rfl⟩) | (go_at_call 38; refine Calls.mono (CI.out _ ?_) ?_; (exact HT.out.ext (by repeat (first | exact Ext.refl _ | assumption | refine Ext.alloc ?_ _ | refine Ext.drew ?_ | refine Ext.drewN ?_ _ | (refine Ext.setCell ?_ (by simp <;> omega) _) | refine Ext.trans ?_ (by assumption)))); rintro e w1 ⟨rfl, hb⟩))
    go_ret2
    exact Ret.mk' (by rw [HV.out]; rfl) (by repeat (first | exact Ext.refl _ | assumption | refine Ext.alloc ?_ _ | refine Ext.drew ?_ | refine Ext.drewN ?_ _ | (refine Ext.setCell ?_ (by simp <;> omega) _) | refine Ext.trans ?_ (by assumption)))
  | true =>
    obtain ⟨n0, rfl⟩ : ∃ q : Nat, n = q := ⟨n.toNat, by omega⟩
    have HV : Hid (folV (n0 : Int) true = .tuple #[.string ⟨(romL figs n0).toArray⟩, .int .i64 0]) := Lib.hid (by unfold folV folL; rw [if_neg (by simpa using hr), if_pos rfl, Int.toNat_natCast])
    have HT := Lib.hid hT; clear hT hn
    have HZ := Lib.hid (romT_zero n0); have HEN := Lib.hid romT_end; have HNX := Lib.hid romT_next
    generalize romL figs n0 = R at *
    generalize romT = rt at *
    obtain ⟨FA, hFA, hFI, hFX⟩ := figs_load
    have HFA := Lib.hid hFA; have HFX := Lib.hid hFX; have HFI := Lib.hid hFI; clear hFA hFX hFI
    go_enter Tryz.func17, Tryz.ntmps17
    go_upto_region 6 with (first | (go_at_call 37; refine Calls.mono (pWithin_yes _ _ _ _ ?_) ?_; (omega); rintro e w1 ⟨rfl, rfl⟩) | (go_at_call 37; refine Calls.mono (pWithin_no _ _ _ _ ?_) ?_; (omega); rintro e w1 ⟨rfl, rfl⟩))
    refine wp_region_lit ?_
    refine wpList_load_mid rfl 94 (.global 0) rfl 0 0 rfl FA (.array 13 93) (HFA.out _ (HT.out.ext (by repeat (first | exact Ext.refl _ | assumption | refine Ext.alloc ?_ _ | refine Ext.drew ?_ | refine Ext.drewN ?_ _ | (refine Ext.setCell ?_ (by simp <;> omega) _) | refine Ext.trans ?_ (by assumption))))) Tryz.underlying94 rfl HFI.out ?_
    go_upto_block 0 with fail
    go_step
    have HB0 : Hid (Bld (w.alloc (.cells #[.pointer none, .slice none 0 0] 91)) (w.heap.size + 1) w.heap.size (.slice none 0 0) []) := Lib.hid (Bld.new _ _ (by omega))
    go_loopw [0, 17] (fun x i wr => ∃ (k m : Nat) (v : Value) (l : List UInt8), k ≤ 13 ∧ i = .int .i64 (k : Int) ∧ x = .int .i64 (m : Int) ∧ m ≤ 3999 ∧ Hid (l.length ≤ k * 8000 ∧ l ++ rt k m = R) ∧ Hid (Bld wr (w.heap.size + 1) w.heap.size v l) ∧ Hid (Ext w wr)) (fun _ i _ => 13 - (intOf i).toNat)
    case atStart => exact ⟨0, n0, _, [], by omega, rfl, rfl, by omega, Lib.hid ⟨Nat.le_refl _, HZ.out⟩, HB0, Lib.hid (by repeat (first | exact Ext.refl _ | assumption | refine Ext.alloc ?_ _ | refine Ext.drew ?_ | refine Ext.drewN ?_ _ | (refine Ext.setCell ?_ (by simp <;> omega) _) | refine Ext.trans ?_ (by assumption)))⟩
    case round =>
      obtain ⟨k, m, v, l, hk, rfl, rfl, hm, HL, HBL, HX⟩ := hrel
      by_cases hlt : k < 13
      case neg =>
        obtain rfl : k = 13 := by omega
        go_wp2_with (first | (go_at_call 41; refine Calls.mono (string_any (w.heap.size + 1) w.heap.size v _ _ HBL.out (by have := HX.out.size; have h9 := HBL.out.blk; obtain ⟨p, _, hb⟩ := h9; have := hb.lt; omega)) ?_; rintro e W3 ⟨rfl, hb3⟩; have HB3 := Lib.hid hb3; clear hb3))
        go_ret2
        have hl := HL.out.2
        rw [HEN.out, List.append_nil] at hl
        exact Ret.mk' (by rw [HV.out, hl]; rfl) (Below.ext (Below.trans HX.out HB3.out))
      case pos =>
        have hix := HFX.out wr k hlt
        obtain ⟨⟨hv1, hv2⟩, ht1, ht2⟩ := fig_bd k hlt
        have HD := Lib.hid (HNX.out k hlt m)
        generalize (figs.getD k (0, [])).1 = vv at *
        generalize (figs.getD k (0, [])).2 = tt at *
        have hkl : (k : Int) < 13 := by omega
        go_upto_region 9 with fail
        have HQ0 : Hid (((m : Int) / (vv : Int)) = ((m / vv : Nat) : Int)) := Lib.hid (Int.natCast_ediv m vv).symm
        have hq1 : m / vv ≤ 3999 := Nat.le_trans (Nat.div_le_self _ _) hm
        have HQW : Hid (IntKind.i64.wrap ((m / vv : Nat) : Int) = ((m / vv : Nat) : Int)) := Lib.hid (by generalize m / vv = q at hq1; exact IntWalk.i64_in _ (by omega))
        have HBW := Lib.hid (HBL.out.ext ((Ext.refl wr).alloc (.cells #[.int .i64 (vv : Int), .string ⟨tt.toArray⟩] 93)))
        have hsz : tt.toArray.size * (m / vv) ≤ 140737488355328 := by
          have h2 : tt.toArray.size ≤ 2 := by simpa using ht1
          have := Nat.mul_le_mul h2 hq1
          omega
        have CR := Lib.hid (fun W => Tryz.strings_Repeat ⟨tt.toArray⟩ (m / vv) W (by omega) hsz)
        have k0 := (Blk.new wr 93 #[.int .i64 (vv : Int), .string ⟨tt.toArray⟩]).cell 0 _ rfl
        have k1 := (Blk.new wr 93 #[.int .i64 (vv : Int), .string ⟨tt.toArray⟩]).cell 1 _ rfl
        have kl := (Blk.new wr 93 #[.int .i64 (vv : Int), .string ⟨tt.toArray⟩]).lt
        have HX0 := Lib.hid (FX.zero (w := w) (wq := wr.alloc (.cells #[.int .i64 (vv : Int), .string ⟨tt.toArray⟩] 93)) (sf := wr.heap.size) (tt := tt) (vv := vv) (m := m) (l := l) (Ext.refl (wr.alloc (.cells #[.int .i64 (vv : Int), .string ⟨tt.toArray⟩] 93))).drew)
        clear k0 k1 kl
        refine wp_region_exist (FXl w (wr.alloc (.cells #[.int .i64 (vv : Int), .string ⟨tt.toArray⟩] 93)) wr.heap.size tt vv m l) (by kernel_rfl) (by kernel_rfl) HX0.out (StepsX.all ?_) ?_
        · skip
          refine ⟨fun V W hl hn hd hX _ => ?_, ?_⟩
          · obtain ⟨v0, v1, v2, v3, v4, v5, v6, v7, rfl⟩ := len8 hl
            obtain rfl : v0 = none := hn
            replace hX := FXl_out hX
            obtain rfl := hX.none7 (by simp)
            skip
            refine ⟨rfl, ?_⟩
            go_simp
            exact hX.s0
          refine ⟨fun V W hl hn hd hX _ => ?_, ?_⟩
          · obtain ⟨v0, v1, v2, v3, v4, v5, v6, v7, rfl⟩ := len8 hl
            obtain rfl : v1 = none := hn
            replace hX := FXl_out hX
            obtain rfl := hX.none7 (by simp)
            obtain ⟨u0, rfl⟩ := Option.isSome_iff_exists.1 (hd 0 (by decide)); obtain rfl := hX.p0 _ rfl; have q0 := ((Blk.new wr 93 #[.int .i64 (vv : Int), .string ⟨tt.toArray⟩]).ext (hX.e rfl)).cell 0 _ rfl; have q1 := ((Blk.new wr 93 #[.int .i64 (vv : Int), .string ⟨tt.toArray⟩]).ext (hX.e rfl)).cell 1 _ rfl
            refine ⟨rfl, ?_⟩
            go_simp
            exact hX.s1
          refine ⟨fun V W hl hn hd hX _ => ?_, ?_⟩
          · obtain ⟨v0, v1, v2, v3, v4, v5, v6, v7, rfl⟩ := len8 hl
            obtain rfl : v2 = none := hn
            replace hX := FXl_out hX
            obtain rfl := hX.none7 (by simp)
            skip
            refine ⟨rfl, ?_⟩
            go_simp
            exact hX.s2
          refine ⟨fun V W hl hn hd hX _ => ?_, ?_⟩
          · obtain ⟨v0, v1, v2, v3, v4, v5, v6, v7, rfl⟩ := len8 hl
            obtain rfl : v3 = none := hn
            replace hX := FXl_out hX
            obtain rfl := hX.none7 (by simp)
            skip
            refine ⟨rfl, ?_⟩
            go_simp
            exact hX.s3
          refine ⟨fun V W hl hn hd hX _ => ?_, ?_⟩
          · obtain ⟨v0, v1, v2, v3, v4, v5, v6, v7, rfl⟩ := len8 hl
            obtain rfl : v4 = none := hn
            replace hX := FXl_out hX
            obtain rfl := hX.none7 (by simp)
            obtain ⟨u3, rfl⟩ := Option.isSome_iff_exists.1 (hd 3 (by decide)); obtain rfl := hX.p3 _ rfl; have q0 := ((Blk.new wr 93 #[.int .i64 (vv : Int), .string ⟨tt.toArray⟩]).ext (hX.e rfl)).cell 0 _ rfl; have q1 := ((Blk.new wr 93 #[.int .i64 (vv : Int), .string ⟨tt.toArray⟩]).ext (hX.e rfl)).cell 1 _ rfl
            refine ⟨rfl, ?_⟩
            go_simp
            exact hX.s4
          refine ⟨fun V W hl hn hd hX _ => ?_, ?_⟩
          · obtain ⟨v0, v1, v2, v3, v4, v5, v6, v7, rfl⟩ := len8 hl
            obtain rfl : v5 = none := hn
            replace hX := FXl_out hX
            obtain rfl := hX.none7 (by simp)
            obtain ⟨u2, rfl⟩ := Option.isSome_iff_exists.1 (hd 2 (by decide)); obtain rfl := hX.p2 _ rfl; obtain ⟨u4, rfl⟩ := Option.isSome_iff_exists.1 (hd 4 (by decide)); obtain rfl := hX.p4 _ rfl; have hv0 : ¬ vv = 0 := by omega
            refine ⟨rfl, ?_⟩
            go_simp
            exact hX.s5 (by rw [HQ0.out, HQW.out])
          refine ⟨fun V W hl hn hd hX _ => ?_, ?_⟩
          · obtain ⟨v0, v1, v2, v3, v4, v5, v6, v7, rfl⟩ := len8 hl
            obtain rfl : v6 = none := hn
            replace hX := FXl_out hX
            obtain rfl := hX.none7 (by simp)
            obtain ⟨u1, rfl⟩ := Option.isSome_iff_exists.1 (hd 1 (by decide)); obtain rfl := hX.p1 _ rfl; obtain ⟨u5, rfl⟩ := Option.isSome_iff_exists.1 (hd 5 (by decide)); obtain rfl := hX.p5 _ rfl
            refine ⟨rfl, ?_⟩
            go_simp
            refine Calls.mono (CR.out _) ?_; rintro e w4 ⟨rfl, hb⟩; exact ⟨_, rfl, hX.s6 hb (by rw [repL_eq])⟩
          refine ⟨fun V W hl hn hd hX hC => ?_, trivial⟩
          obtain ⟨v0, v1, v2, v3, v4, v5, v6, v7, rfl⟩ := len8 hl
          obtain rfl : v7 = none := hn
          replace hX := FXl_out hX
          have hall : v0.isSome = true ∧ v1.isSome = true ∧ v2.isSome = true ∧ v3.isSome = true ∧ v4.isSome = true ∧ v5.isSome = true ∧ v6.isSome = true := by
            have h6 := hd 6 (by decide)
            have h1 := hC 6 _ rfl h6 1 (by decide)
            have h5 := hC 6 _ rfl h6 5 (by decide)
            have h0 := hC 1 _ rfl h1 0 (by decide)
            have h2 := hC 5 _ rfl h5 2 (by decide)
            have h4 := hC 5 _ rfl h5 4 (by decide)
            have h3 := hC 4 _ rfl h4 3 (by decide)
            exact ⟨h0, h1, h2, h3, h4, h5, h6⟩
          obtain ⟨u6, rfl⟩ := Option.isSome_iff_exists.1 (hd 6 (by decide)); obtain rfl := hX.p6 _ rfl
          refine ⟨rfl, ?_⟩
          go_simp
          refine Calls.mono (writeString_any (w.heap.size + 1) w.heap.size v l ⟨(repL tt (m / vv)).toArray⟩ W (HBW.out.ext (hX.e rfl)) ?_ ?_) ?_
          · have := HL.out.1; have h8 := repL_len tt (m / vv); have h9 := Nat.mul_le_mul hq1 ht1
            show l.length + (repL tt (m / vv)).toArray.size ≤ _
            rw [List.size_toArray]; omega
          · have := (HX.out.trans ((Ext.refl wr).alloc (.cells #[.int .i64 (vv : Int), .string ⟨tt.toArray⟩] 93))).trans (hX.e rfl)
            have h5 := this.size
            have h6 := HBL.out.blk; obtain ⟨p6, _, h7⟩ := h6; have h8 := h7.lt; have h9 := (Ext.trans ((Ext.refl wr).alloc (.cells #[.int .i64 (vv : Int), .string ⟨tt.toArray⟩] 93)) (hX.e rfl)).size
            omega
          · rintro e w5 ⟨rfl, v', hb5, hbut⟩
            refine ⟨_, rfl, ⟨fun e => (by cases e), fun _ => hall, fun _ => ⟨⟨v', hb5⟩, ?_, ?_⟩, hX.p0, hX.p1, hX.p2, hX.p3, hX.p4, hX.p5, hX.p6⟩⟩
            · exact But.extL ((HX.out.trans ((Ext.refl wr).alloc _)).trans (hX.e rfl)) (HBW.out.ext (hX.e rfl)) (Nat.le_refl _) hbut
            · have hbk := (Blk.new wr 93 #[.int .i64 (vv : Int), .string ⟨tt.toArray⟩]).ext (hX.e rfl)
              refine hbk.but hbut ((HBW.out.ext (hX.e rfl)).far hbk (by decide) ?_)
              obtain ⟨p6, _, h7⟩ := HBL.out.blk
              have h8 := h7.lt
              omega
        intro V W hl hV hX
        obtain ⟨v0, v1, v2, v3, v4, v5, v6, v7, rfl⟩ := len8 hl
        replace hX := FXl_out hX
        obtain ⟨u7, rfl⟩ := Option.isSome_iff_exists.1 (hV 7 (by decide))
        obtain ⟨⟨v', hb5⟩, hx5, hbx⟩ := hX.d rfl
        have HB5 := Lib.hid hb5; have HX5 := Lib.hid hx5
        have q0 := hbx.cell 0 _ rfl; have q1 := hbx.cell 1 _ rfl; have ql := hbx.lt
        clear hX hbx hb5 hx5
        simp only [putAll, known, List.map_cons, List.map_nil, Act.put, List.setIfInBounds_toArray, List.set_cons_zero, List.set_cons_succ, Option.getD_some]
        have hv0 : ¬ vv = 0 := by omega
        have hv9 : ¬ (vv : Int) = 0 := by omega
        have hl8 := repL_len tt (m / vv)
        have hl9 := Nat.mul_le_mul hq1 ht1
        have HR9 : Hid (m % vv ≤ 3999) := Lib.hid (Nat.le_trans (Nat.mod_le _ _) hm)
        have HL2 : Hid ((l ++ repL tt (m / vv)).length ≤ (k + 1) * 8000 ∧ (l ++ repL tt (m / vv)) ++ rt (k + 1) (m % vv) = R) := Lib.hid ⟨by rw [List.length_append]; have := HL.out.1; omega, by rw [List.append_assoc, ← HD.out]; exact HL.out.2⟩
        clear hl8 hl9
        go_wp2
        go_roundw
        case rel => exact ⟨k + 1, m % vv, v', _, by omega, rfl, rfl, HR9.out, HL2, HB5, HX5⟩
        case measure => simp [intOf]; omega
end Go.Proofs.YtfbdklminljecaaGreatDoor
