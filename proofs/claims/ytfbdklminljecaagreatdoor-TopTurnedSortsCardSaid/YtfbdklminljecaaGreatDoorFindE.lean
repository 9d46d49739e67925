/-
  A loop over an iterator of lists that lie in memory, left by return at the first list that is taken.
-/
import Derived.Test.YtfbdklminljecaaGreatDoorGI
import Derived.Test.YtfbdklminljecaaGreatDoorStandYield
namespace Go.Proofs.YtfbdklminljecaaGreatDoor
open Go.RowKit
attribute [local go_sem] Oper.semAt_some wide_fn wide_depth

theorem roundIn_any {n m : Nat} {P : Program} {l : Nat} {f : FuncId} {tmps : Array Value} {assign body : Code} {w : World} {R : Ending → World → Prop} (h : RoundIn Fence.wide n P l f tmps assign body w R) : RoundIn Fence.wide m P l f tmps assign body w R :=
  ⟨h.1, fun c cs _ => h.2 c cs (room_wide _)⟩
theorem But.wider {w w' : World} {L L' : List Nat} (h : But L w w') (hs : ∀ k ∈ L, k ∈ L') : But L' w w' := ⟨h.os, h.tape, h.output, h.size, fun k hk hn => h.block k hk fun hm => hn (hs k hm)⟩
theorem But.obj {X Y : World} {L : List Nat} (h : But L X Y) {k : Nat} {o : Obj} (hk : X.heap[k]? = some o) (hn : k ∉ L) : Y.heap[k]? = some o := (h.block k (Array.getElem?_eq_some_iff.1 hk).1 hn).trans hk
theorem But.putObj (W : World) (l : Nat) (o : Obj) : But [l] W (W.putObj l o) := ⟨rfl, rfl, rfl, by simp, fun _ _ hk => World.putObj_heap_other (by simpa using hk)⟩
theorem Ext.putObj {w W : World} (h : Ext w W) {l : Nat} (hl : w.heap.size ≤ l) (o : Obj) : Ext w (W.putObj l o) := But.ext h (But.putObj W l o) (fun g hg => by rw [List.mem_singleton] at hg; omega)
theorem Ext.obj {X Y : World} (h : Ext X Y) {k : Nat} {o : Obj} (hk : X.heap[k]? = some o) : Y.heap[k]? = some o := (h.block (Array.getElem?_eq_some_iff.1 hk).1).trans hk
theorem RI.putObj {X : World} {A : Option Addr} {n l : Nat} {zs : List Int} {o o' : Obj} (h : RI X A n zs) (hl : X.heap[l]? = some o) (ho : o.isCells = false) : RI (X.putObj l o') A n zs :=
  ⟨h.1, h.2.1, fun hn => let ⟨b, off, ha, hb, hc⟩ := h.2.2 hn; ⟨b, off, ha, by simpa using hb, fun k hk => cell_kept (hc k hk) (grownBy_putObj' X l o') (fun r e => by cases e; exact ⟨o, hl, ho⟩)⟩⟩
/-- An iterator of the lists L: each one is handed out in memory; it ends at the first one at which a round ends the loop. What it looks at lies from block base on. -/
def Finds (P : Program) (gf : Nat) (lb : Array Value) (L : List (List Int)) (base : Nat) (w : World) : Prop :=
  ∀ (l : Nat) (J : World → Prop) (Jx : List Int → World → Prop) (Pd : List Int → Bool) (Lb : List Nat) (W : World), Ext w W → w.heap.size ≤ l → (∀ k ∈ Lb, k < base) → (∃ o : Obj, W.heap[l]? = some o ∧ o.isCells = false) →
    (∀ X Y, J X → Ext X Y → J Y) → (∀ zs X Y, Jx zs X → Ext X Y → Jx zs Y) →
    (∀ n A c zs X, J X → zs ∈ L → RI X A zs.length zs → (∀ a, A = some a → base ≤ a.block) → YieldAt Fence.wide n P l #[.slice A zs.length c] X fun e Y => (e = .returned (.bool true) ∧ Pd zs = false ∧ J Y ∧ But [l] X Y) ∨ (e = .returned (.bool false) ∧ Pd zs = true ∧ Jx zs Y ∧ But (l :: Lb) X Y)) →
    J W → ∀ n, CallsIn Fence.wide n P gf (#[.func (.yield l) #[] #[]] ++ lb) W fun e W' => (∃ v, e = .returned v) ∧ (match L.find? Pd with | none => J W' | some zs => Jx zs W')
/-- How a round may be left. -/
def findPost (Pd : List Int → Bool) (Lb : List Nat) (R : List Int → World → Prop) (zs : List Int) (W : World) : Exit → Act → World → Prop
  | .normal, _, W' => Pd zs = false ∧ Ext W W'
  | .ret, _, W' => Pd zs = true ∧ But Lb W W' ∧ R zs W'
  | .exit _, _, _ => False
  | .goto _, _, _ => False
  | .panic _, _, _ => False
  | .outgrown, _, _ => False
def recOf (fn : FuncId) (a : Act) (ps : Array Tmp) (assign body : Code) (d : Nat) (st : LoopState) (pe : Option Code) : Loop := { state := st, pending := pe, fn, tmps := a.tmps, params := ps, assign, body, defers := d }
theorem wp_find {P : Program} {n : Nat} (hn : 1 ≤ n) {g : Operand} {ps : Array Tmp} {assign body : Code} {Q : Exit → Act → World → Prop} {a : Act} {w : World} {gf : Nat} {lb : Array Value}
    (hg : a.eval g = .func (.func gf) #[] lb) (eg : ∀ args w, (callFunc gf args).run P w = .ok (.enter gf args) w) {L : List (List Int)} {base : Nat} {Pd : List Int → Bool} (hseq : Finds P gf lb L base w) (hbase : base ≤ w.heap.size) {Lb : List Nat} (hLb : ∀ k ∈ Lb, k < base) (hps : ps.size = 1)
    (R : List Int → World → Prop) (hRx : ∀ zs X Y, R zs X → Ext X Y → R zs Y) (hRp : ∀ zs X k o', R zs X → w.heap.size ≤ k → (∃ o : Obj, X.heap[k]? = some o ∧ o.isCells = false) → R zs (X.putObj k o')) (a₁ : Value → Act)
    (hassign : ∀ l v W (K : Act → World → Prop), K (a₁ v) W → assign.wpIn (Fence.wide.inRound l) (n - 1 - 1) P (Exit.then K (fun _ _ _ => False)) { tmps := (ps.zip #[v]).foldl (fun t (p, v) => t.setIfInBounds p v) a.tmps, defers := [] } W)
    (hbody : ∀ l A c zs W, Ext w W → zs ∈ L → RI W A zs.length zs → (∀ a, A = some a → base ≤ a.block) → body.wpIn (Fence.wide.inRound l) (n - 1 - 1) P (findPost Pd Lb R zs W) (a₁ (.slice A zs.length c)) W)
    (hdone : ∀ W, L.find? Pd = none → Ext w W → W.heap[w.heap.size]? = some (.deferred (some [])) → Q .normal { a with defers := { target := .collected w.heap.size, args := #[] } :: a.defers } W)
    (hstop : ∀ zs W, L.find? Pd = some zs → R zs W → W.heap[w.heap.size]? = some (.deferred (some [])) → Code.ret.wpIn Fence.wide n P Q { a with defers := { target := .collected w.heap.size, args := #[] } :: a.defers } W) :
    (Code.rangeFunc g ps assign body).wpIn Fence.wide n P Q a w := by
  refine wpIn_rangeFunc ?_
  intro fn hfn
  obtain ⟨l, hl⟩ : ∃ l, l = w.heap.size + 1 := ⟨_, rfl⟩
  obtain ⟨W1, hW1⟩ : ∃ W1, (w.alloc (.deferred (some []))).alloc (.loop (recOf fn a ps assign body w.heap.size .ready none)) = W1 := ⟨_, rfl⟩
  have hL1 : W1.heap[l]? = some (.loop (recOf fn a ps assign body w.heap.size .ready none)) := by
    rw [← hW1, hl]; have := World.alloc_heap_new (w.alloc (.deferred (some []))) (.loop (recOf fn a ps assign body w.heap.size .ready none)); rwa [World.size_alloc] at this
  have hK1 : W1.heap[w.heap.size]? = some (.deferred (some [])) := by
    rw [← hW1]; exact (Below.heap_alloc _ _ _ (by simp)).trans (World.alloc_heap_new w _)
  have hX1 : Ext w W1 := by rw [← hW1]; exact ((Ext.refl w).alloc _).alloc _
  refine ⟨l, [{ target := .collected w.heap.size, args := #[] }], W1, { target := .fn (.func gf) lb, args := #[.func (.yield l) #[] #[]] }, W1, gf, #[.func (.yield l) #[] #[]] ++ lb, W1, ?_, ?_, ?_, ?_, fun _ => hn, ?_⟩
  · rw [← hW1, hl]; exact run_enterLoop_outer _ _ _ _ _
  · simp only [resolve, hg]
    simp [go_sem]
  · intro f' _; trivial
  · simp [invoke, go_sem, eg]
  refine (hseq l (fun X => Ext w X ∧ X.heap[l]? = some (.loop (recOf fn a ps assign body w.heap.size .ready none)) ∧ X.heap[w.heap.size]? = some (.deferred (some [])))
    (fun zs X => R zs X ∧ X.heap[l]? = some (.loop (recOf fn a ps assign body w.heap.size .done (some .ret))) ∧ X.heap[w.heap.size]? = some (.deferred (some []))) Pd Lb W1 hX1 (by omega) hLb ⟨_, hL1, rfl⟩
    (fun X Y h hx => ⟨h.1.trans hx, hx.obj h.2.1, hx.obj h.2.2⟩) (fun zs X Y h hx => ⟨hRx _ _ _ h.1 hx, hx.obj h.2.1, hx.obj h.2.2⟩) ?_ ⟨hX1, hL1, hK1⟩ (n - 1)).mono ?_
  · rintro m A c zs X ⟨hx, hlr, hk⟩ hz hri hfar
    have hlt : l < X.heap.size := (Array.getElem?_eq_some_iff.1 hlr).1
    have hy := run_yield (P := P) (args := #[.slice A zs.length c]) hlr (by simp [recOf, hps])
    refine ⟨fn, _, assign, body, hy, roundIn_any (n := n - 1 - 1) (roundIn_of_wpIn hfn (hassign _ _ X _ ⟨_, run_beginRound hlr rfl, ?_⟩))⟩
    clear hy
    obtain ⟨X2, hX2⟩ : ∃ X2, X.putObj l (.loop (recOf fn a ps assign body w.heap.size .busy none)) = X2 := ⟨_, rfl⟩
    have hl2 : X2.heap[l]? = some (.loop (recOf fn a ps assign body w.heap.size .busy none)) := by rw [← hX2]; exact World.putObj_heap_same hlt
    have hk2 : X2.heap[w.heap.size]? = some (.deferred (some [])) := by rw [← hX2]; exact (World.putObj_heap_other (by omega)).trans hk
    have hx2 : Ext w X2 := by rw [← hX2]; exact hx.putObj (by omega) _
    have hb2 : But [l] X X2 := by rw [← hX2]; exact But.putObj _ _ _
    have hr2 : RI X2 A zs.length zs := by rw [← hX2]; exact hri.putObj hlr rfl
    have hlt2 : l < X2.heap.size := (Array.getElem?_eq_some_iff.1 hl2).1
    show body.wpIn (Fence.wide.inRound l) (n - 1 - 1) P _ (a₁ (.slice A zs.length c)) (X.putObj l (.loop (recOf fn a ps assign body w.heap.size .busy none)))
    rw [hX2]
    refine wpIn_mono (hbody l A c zs X2 hx2 hz hr2 hfar) ?_
    rintro e a3 X3 hp
    cases e with
    | normal =>
      obtain ⟨hp1, hp2⟩ := hp
      have hl3 := hp2.obj hl2
      have hlt3 : l < X3.heap.size := (Array.getElem?_eq_some_iff.1 hl3).1
      exact ⟨_, _, run_endRound none hl3, .inl ⟨rfl, hp1, ⟨(hx2.trans hp2).putObj (by omega) _, World.putObj_heap_same hlt3, (World.putObj_heap_other (by omega)).trans (hp2.obj hk2)⟩, (hb2.trans (But.of_ext hp2 _)).trans (But.putObj _ _ _)⟩⟩
    | ret =>
      obtain ⟨hp1, hp2, hp3⟩ := hp
      have hl3 := hp2.obj hl2 (fun hm => by have := hLb l hm; omega)
      have hlt3 : l < X3.heap.size := (Array.getElem?_eq_some_iff.1 hl3).1
      exact ⟨_, _, run_endRound (some .ret) hl3, .inr ⟨rfl, hp1, ⟨hRp _ _ _ _ hp3 (by omega) ⟨_, hl3, rfl⟩, World.putObj_heap_same hlt3, (World.putObj_heap_other (by omega)).trans (hp2.obj hk2 (fun hm => by have := hLb _ hm; omega))⟩, ((hb2.wider (by simp)).trans (hp2.wider fun k hk => List.mem_cons_of_mem _ hk)).trans ((But.putObj _ _ _).wider (by simp))⟩⟩
    | exit id => exact hp.elim
    | goto t => exact hp.elim
    | panic ch => exact hp.elim
    | outgrown => exact hp.elim
  · rintro e W2 ⟨⟨v, rfl⟩, hm⟩
    cases hf : L.find? Pd with
    | none =>
      rw [hf] at hm
      obtain ⟨hx, hlr, hk⟩ := hm
      exact ⟨none, _, run_endLoop hlr (by simp [recOf]), hdone _ hf (hx.putObj (by omega) _) ((World.putObj_heap_other (by omega)).trans hk)⟩
    | some zs =>
      rw [hf] at hm
      obtain ⟨hr, hlr, hk⟩ := hm
      exact ⟨some .ret, _, run_endLoop hlr (by simp [recOf]), hstop zs _ hf (hRp _ _ _ _ hr (by omega) ⟨_, hlr, rfl⟩) ((World.putObj_heap_other (by omega)).trans hk)⟩
end Go.Proofs.YtfbdklminljecaaGreatDoor
